/- Plain: strictly ascending lists under a total order: insertion, striking of doubles, uniqueness. No program. -/
import Derived.Test.YtfndgiinniibfaaI2
namespace Go.Proofs.Ytfndgiinniibfaa.Ind
open Go.RowKit

structure STO {α : Type} (lt : α → α → Bool) : Prop where
  irr : ∀ a, lt a a = false
  trans : ∀ a b c, lt a b = true → lt b c = true → lt a c = true
  tri : ∀ a b, lt a b = false → lt b a = false → a = b
def Asc {α : Type} (lt : α → α → Bool) (l : List α) : Prop := l.Pairwise fun a b => lt a b = true
section
variable {α : Type} {lt : α → α → Bool}
theorem asc_uniq (O : STO lt) : ∀ {l l' : List α}, Asc lt l → Asc lt l' → (∀ x, x ∈ l ↔ x ∈ l') → l = l'
  | [], [], _, _, _ => rfl
  | [], b :: s, _, _, h => by have := (h b).2 List.mem_cons_self; cases this
  | a :: r, [], _, _, h => by have := (h a).1 List.mem_cons_self; cases this
  | a :: r, b :: s, h1, h2, h => by
    unfold Asc at h1 h2
    rw [List.pairwise_cons] at h1 h2
    have hab : a = b := by
      rcases List.mem_cons.1 ((h a).1 List.mem_cons_self) with e | ha
      · exact e
      · rcases List.mem_cons.1 ((h b).2 List.mem_cons_self) with e | hb
        · exact e.symm
        · have e1 := h1.1 b hb
          have e2 := h2.1 a ha
          have := O.trans _ _ _ e1 e2
          rw [O.irr] at this
          cases this
    subst hab
    congr 1
    refine asc_uniq O h1.2 h2.2 (fun x => ?_)
    constructor
    · intro hx
      rcases List.mem_cons.1 ((h x).1 (List.mem_cons_of_mem _ hx)) with e | hx2
      · subst e; have := h1.1 x hx; rw [O.irr] at this; cases this
      · exact hx2
    · intro hx
      rcases List.mem_cons.1 ((h x).2 (List.mem_cons_of_mem _ hx)) with e | hx2
      · subst e; have := h2.1 x hx; rw [O.irr] at this; cases this
      · exact hx2
variable [DecidableEq α]
def insG (lt : α → α → Bool) : List α → α → List α
  | [], x => [x]
  | a :: r, x => if lt a x = true then a :: insG lt r x else if a = x then a :: r else x :: a :: r
theorem mem_insG {l : List α} {x y : α} : y ∈ insG lt l x ↔ y = x ∨ y ∈ l := by
  induction l with
  | nil => simp [insG]
  | cons a r ih =>
    rw [insG]
    split
    · rw [List.mem_cons, ih, List.mem_cons]
      constructor
      · rintro (h | h | h)
        · exact .inr (.inl h)
        · exact .inl h
        · exact .inr (.inr h)
      · rintro (h | h | h)
        · exact .inr (.inl h)
        · exact .inl h
        · exact .inr (.inr h)
    · split
      · rename_i h
        subst h
        simp
      · simp
theorem asc_insG (O : STO lt) {l : List α} {x : α} (h : Asc lt l) : Asc lt (insG lt l x) := by
  unfold Asc at *
  induction l with
  | nil => simp [insG]
  | cons a r ih =>
    rw [List.pairwise_cons] at h
    rw [insG]
    split
    · rename_i ha
      rw [List.pairwise_cons]
      refine ⟨fun y hy => ?_, ih h.2⟩
      rcases mem_insG.1 hy with rfl | hy
      · exact ha
      · exact h.1 y hy
    · rename_i ha
      split
      · rw [List.pairwise_cons]; exact h
      · rename_i hn
        have hxa : lt x a = true := by
          cases hx : lt x a with
          | true => rfl
          | false => exact absurd (O.tri a x (by simpa using ha) hx) hn
        rw [List.pairwise_cons, List.pairwise_cons]
        refine ⟨fun y hy => ?_, h⟩
        rcases List.mem_cons.1 hy with rfl | hy
        · exact hxa
        · exact O.trans _ _ _ hxa (h.1 y hy)
/-- All inserted. -/
def setG (lt : α → α → Bool) (l : List α) : List α := l.foldl (insG lt) []
theorem setG_snoc (l : List α) (x : α) : setG lt (l ++ [x]) = insG lt (setG lt l) x := by simp [setG]
theorem setG_gen (O : STO lt) : ∀ (l acc : List α), Asc lt acc → Asc lt (l.foldl (insG lt) acc) ∧ ∀ y, y ∈ l.foldl (insG lt) acc ↔ y ∈ acc ∨ y ∈ l
  | [], acc, h => ⟨h, by simp⟩
  | x :: r, acc, h => by
    obtain ⟨h1, h2⟩ := setG_gen O r (insG lt acc x) (asc_insG O h)
    refine ⟨h1, fun y => ?_⟩
    rw [List.foldl_cons, h2, mem_insG, List.mem_cons]
    constructor
    · rintro ((h | h) | h)
      · exact .inr (.inl h)
      · exact .inl h
      · exact .inr (.inr h)
    · rintro (h | h | h)
      · exact .inl (.inr h)
      · exact .inl (.inl h)
      · exact .inr h
theorem setG_asc (O : STO lt) (l : List α) : Asc lt (setG lt l) := (setG_gen O l [] List.Pairwise.nil).1
theorem mem_setG (O : STO lt) {l : List α} {y : α} : y ∈ setG lt l ↔ y ∈ l := by
  rw [setG, (setG_gen O l [] List.Pairwise.nil).2]; simp
omit [DecidableEq α] in
theorem asc_nodup (O : STO lt) {l : List α} (h : Asc lt l) : l.Nodup :=
  h.imp fun {a b} hab e => by subst e; rw [O.irr] at hab; cases hab
/-- Doubles that stand side by side are struck. -/
def compG : List α → List α
  | a :: b :: r => if a = b then compG (b :: r) else a :: compG (b :: r)
  | l => l
theorem mem_compG : ∀ {l : List α} {y : α}, y ∈ compG l ↔ y ∈ l
  | [], y => by simp [compG]
  | [a], y => by simp [compG]
  | a :: b :: r, y => by
    rw [compG]
    split
    · rename_i h
      subst h
      rw [mem_compG]
      simp
    · rw [List.mem_cons, mem_compG, List.mem_cons (b := a)]
theorem asc_compG (O : STO lt) : ∀ {l : List α}, l.Pairwise (fun a b => lt b a = false) → Asc lt (compG l)
  | [], _ => List.Pairwise.nil
  | [a], _ => by simp [compG, Asc]
  | a :: b :: r, h => by
    rw [List.pairwise_cons] at h
    have ih := asc_compG O h.2
    rw [compG]
    split
    · exact ih
    · rename_i hn
      unfold Asc at *
      rw [List.pairwise_cons]
      refine ⟨fun y hy => ?_, ih⟩
      have hab : lt a b = true := by
        cases hx : lt a b with
        | true => rfl
        | false => exact absurd (O.tri a b hx (h.1 b List.mem_cons_self)) hn
      rcases List.mem_cons.1 (mem_compG.1 hy) with rfl | hy
      · exact hab
      · have hby := (List.pairwise_cons.1 h.2).1 y hy
        cases hx : lt b y with
        | true => exact O.trans _ _ _ hab hx
        | false => rw [← O.tri b y hx hby]; exact hab
/-- What sorting and striking make is what inserting makes. -/
theorem comp_set (O : STO lt) {l s : List α} (hm : ∀ x, x ∈ s ↔ x ∈ l) (hs : s.Pairwise fun a b => lt b a = false) : compG s = setG lt l :=
  asc_uniq O (asc_compG O hs) (setG_asc O l) (fun x => by rw [mem_compG, mem_setG O, hm])
/-- Without doubles sorting alone does. -/
theorem sort_set (O : STO lt) {l s : List α} (hm : ∀ x, x ∈ s ↔ x ∈ l) (hn : s.Nodup) (hs : s.Pairwise fun a b => lt b a = false) : s = setG lt l := by
  refine asc_uniq O ?_ (setG_asc O l) (fun x => by rw [mem_setG O, hm])
  unfold Asc
  have := hn.and hs
  refine this.imp fun {a b} h => ?_
  cases hx : lt a b with
  | true => rfl
  | false => exact absurd (O.tri a b hx h.2) h.1
theorem setG_len (O : STO lt) {l s : List α} (hm : ∀ x, x ∈ s ↔ x ∈ l) (hn : s.Nodup) : (setG lt l).length = s.length := by
  have h1 := asc_nodup O (setG_asc O l)
  have h2 : (setG lt l).Perm s := (List.perm_ext_iff_of_nodup h1 hn).2 (fun x => by rw [mem_setG O, hm])
  exact h2.length_eq
end

/-- Lists of numbers in the order of books. -/
def ltL : List Int → List Int → Bool
  | [], [] => false
  | [], _ :: _ => true
  | _ :: _, [] => false
  | a :: r, b :: s => decide (a < b) || (decide (a = b) && ltL r s)
theorem sto_int : STO (fun a b : Int => decide (a < b)) := ⟨by simp, by simp; omega, by simp; omega⟩
theorem sto_list : STO ltL := by
  refine ⟨fun a => ?_, fun a => ?_, fun a => ?_⟩
  · induction a with
    | nil => rfl
    | cons x r ih => simp [ltL, ih]
  · induction a with
    | nil => intro b c h1 h2; cases b <;> cases c <;> simp [ltL] at *
    | cons x r ih =>
      intro b c h1 h2
      cases b with
      | nil => simp [ltL] at h1
      | cons y s =>
        cases c with
        | nil => simp [ltL] at h2
        | cons z t =>
          simp only [ltL, Bool.or_eq_true, decide_eq_true_eq, Bool.and_eq_true] at *
          rcases h1 with h1 | ⟨h1, h3⟩
          · rcases h2 with h2 | ⟨h2, h4⟩
            · left; omega
            · left; omega
          · rcases h2 with h2 | ⟨h2, h4⟩
            · left; omega
            · right; exact ⟨by omega, ih s t h3 h4⟩
  · induction a with
    | nil => intro b h1 h2; cases b <;> simp [ltL] at *
    | cons x r ih =>
      intro b h1 h2
      cases b with
      | nil => simp [ltL] at h2
      | cons y s =>
        simp only [ltL, Bool.or_eq_false_iff, decide_eq_false_iff_not, Bool.and_eq_false_iff] at h1 h2
        have hxy : x = y := by omega
        subst hxy
        rw [ih s (by rcases h1.2 with h | h; exact absurd rfl h; exact h) (by rcases h2.2 with h | h; exact absurd rfl h; exact h)]
/-- First by a number, then by the rest. -/
def ltN {β : Type} (lt : β → β → Bool) (a b : Int × β) : Bool := decide (a.1 < b.1) || (decide (a.1 = b.1) && lt a.2 b.2)
theorem sto_pair {β : Type} {lt : β → β → Bool} (O : STO lt) : STO (ltN lt) := by
  refine ⟨fun a => by simp [ltN, O.irr], fun a b c h1 h2 => ?_, fun a b h1 h2 => ?_⟩
  · simp only [ltN, Bool.or_eq_true, decide_eq_true_eq, Bool.and_eq_true] at *
    rcases h1 with h1 | ⟨h1, h3⟩
    · rcases h2 with h2 | ⟨h2, h4⟩
      · left; omega
      · left; omega
    · rcases h2 with h2 | ⟨h2, h4⟩
      · left; omega
      · right; exact ⟨by omega, O.trans _ _ _ h3 h4⟩
  · simp only [ltN, Bool.or_eq_false_iff, decide_eq_false_iff_not, Bool.and_eq_false_iff] at h1 h2
    have hxy : a.1 = b.1 := by omega
    refine Prod.ext hxy (O.tri _ _ ?_ ?_)
    · rcases h1.2 with h | h
      · exact absurd hxy h
      · exact h
    · rcases h2.2 with h | h
      · exact absurd hxy.symm h
      · exact h
/-- A state of an instance; an arc of an instance. -/
abbrev Pl := Int × List Int
abbrev Mv := Int × Pl
abbrev Ar := Int × Int
def ltP : Pl → Pl → Bool := ltN ltL
def ltM : Mv → Mv → Bool := ltN ltP
def ltAr : Ar → Ar → Bool := ltN fun a b : Int => decide (a < b)
theorem sto_P : STO ltP := sto_pair sto_list
theorem sto_M : STO ltM := sto_pair sto_P
theorem sto_Ar : STO ltAr := sto_pair sto_int

end Go.Proofs.Ytfndgiinniibfaa.Ind
