/- Texts I4, I5. -/
import Derived.Test.YtdknbgejhhoaiaaGreatQ04
/- Plain: strictly ascending lists under a total order: insertion, striking of doubles, uniqueness. No program. -/
namespace Go.Proofs.YtdknbgejhhoaiaaGreat.Ind
open Go.RowKit

structure STO {α : Type} (lt : α → α → Bool) : Prop where
  irr : ∀ a, lt a a = false
  trans : ∀ a b c, lt a b = true → lt b c = true → lt a c = true
  tri : ∀ a b, lt a b = false → lt b a = false → a = b
def Asc {α : Type} (lt : α → α → Bool) (l : List α) : Prop := l.Pairwise fun a b => lt a b = true
section
variable {α : Type} {lt : α → α → Bool}
theorem asc_uniq (O : STO lt) : ∀ {l l' : List α}, Asc lt l → Asc lt l' → (∀ x, x ∈ l ↔ x ∈ l') → l = l'
  | [], [], _, _, _ => rfl
  | [], b :: s, _, _, h => by have := (h b).2 List.mem_cons_self; cases this
  | a :: r, [], _, _, h => by have := (h a).1 List.mem_cons_self; cases this
  | a :: r, b :: s, h1, h2, h => by
    unfold Asc at h1 h2
    rw [List.pairwise_cons] at h1 h2
    have hab : a = b := by
      rcases List.mem_cons.1 ((h a).1 List.mem_cons_self) with e | ha
      · exact e
      · rcases List.mem_cons.1 ((h b).2 List.mem_cons_self) with e | hb
        · exact e.symm
        · have e1 := h1.1 b hb
          have e2 := h2.1 a ha
          have := O.trans _ _ _ e1 e2
          rw [O.irr] at this
          cases this
    subst hab
    congr 1
    refine asc_uniq O h1.2 h2.2 (fun x => ?_)
    constructor
    · intro hx
      rcases List.mem_cons.1 ((h x).1 (List.mem_cons_of_mem _ hx)) with e | hx2
      · subst e; have := h1.1 x hx; rw [O.irr] at this; cases this
      · exact hx2
    · intro hx
      rcases List.mem_cons.1 ((h x).2 (List.mem_cons_of_mem _ hx)) with e | hx2
      · subst e; have := h2.1 x hx; rw [O.irr] at this; cases this
      · exact hx2
variable [DecidableEq α]
def insG (lt : α → α → Bool) : List α → α → List α
  | [], x => [x]
  | a :: r, x => if lt a x = true then a :: insG lt r x else if a = x then a :: r else x :: a :: r
theorem mem_insG {l : List α} {x y : α} : y ∈ insG lt l x ↔ y = x ∨ y ∈ l := by
  induction l with
  | nil => simp [insG]
  | cons a r ih =>
    rw [insG]
    split
    · rw [List.mem_cons, ih, List.mem_cons]
      constructor
      · rintro (h | h | h)
        · exact .inr (.inl h)
        · exact .inl h
        · exact .inr (.inr h)
      · rintro (h | h | h)
        · exact .inr (.inl h)
        · exact .inl h
        · exact .inr (.inr h)
    · split
      · rename_i h
        subst h
        simp
      · simp
theorem asc_insG (O : STO lt) {l : List α} {x : α} (h : Asc lt l) : Asc lt (insG lt l x) := by
  unfold Asc at *
  induction l with
  | nil => simp [insG]
  | cons a r ih =>
    rw [List.pairwise_cons] at h
    rw [insG]
    split
    · rename_i ha
      rw [List.pairwise_cons]
      refine ⟨fun y hy => ?_, ih h.2⟩
      rcases mem_insG.1 hy with rfl | hy
      · exact ha
      · exact h.1 y hy
    · rename_i ha
      split
      · rw [List.pairwise_cons]; exact h
      · rename_i hn
        have hxa : lt x a = true := by
          cases hx : lt x a with
          | true => rfl
          | false => exact absurd (O.tri a x (by simpa using ha) hx) hn
        rw [List.pairwise_cons, List.pairwise_cons]
        refine ⟨fun y hy => ?_, h⟩
        rcases List.mem_cons.1 hy with rfl | hy
        · exact hxa
        · exact O.trans _ _ _ hxa (h.1 y hy)
/-- All inserted. -/
def setG (lt : α → α → Bool) (l : List α) : List α := l.foldl (insG lt) []
theorem setG_snoc (l : List α) (x : α) : setG lt (l ++ [x]) = insG lt (setG lt l) x := by simp [setG]
theorem setG_gen (O : STO lt) : ∀ (l acc : List α), Asc lt acc → Asc lt (l.foldl (insG lt) acc) ∧ ∀ y, y ∈ l.foldl (insG lt) acc ↔ y ∈ acc ∨ y ∈ l
  | [], acc, h => ⟨h, by simp⟩
  | x :: r, acc, h => by
    obtain ⟨h1, h2⟩ := setG_gen O r (insG lt acc x) (asc_insG O h)
    refine ⟨h1, fun y => ?_⟩
    rw [List.foldl_cons, h2, mem_insG, List.mem_cons]
    constructor
    · rintro ((h | h) | h)
      · exact .inr (.inl h)
      · exact .inl h
      · exact .inr (.inr h)
    · rintro (h | h | h)
      · exact .inl (.inr h)
      · exact .inl (.inl h)
      · exact .inr h
theorem setG_asc (O : STO lt) (l : List α) : Asc lt (setG lt l) := (setG_gen O l [] List.Pairwise.nil).1
theorem mem_setG (O : STO lt) {l : List α} {y : α} : y ∈ setG lt l ↔ y ∈ l := by
  rw [setG, (setG_gen O l [] List.Pairwise.nil).2]; simp
omit [DecidableEq α] in
theorem asc_nodup (O : STO lt) {l : List α} (h : Asc lt l) : l.Nodup :=
  h.imp fun {a b} hab e => by subst e; rw [O.irr] at hab; cases hab
/-- Doubles that stand side by side are struck. -/
def compG : List α → List α
  | a :: b :: r => if a = b then compG (b :: r) else a :: compG (b :: r)
  | l => l
theorem mem_compG : ∀ {l : List α} {y : α}, y ∈ compG l ↔ y ∈ l
  | [], y => by simp [compG]
  | [a], y => by simp [compG]
  | a :: b :: r, y => by
    rw [compG]
    split
    · rename_i h
      subst h
      rw [mem_compG]
      simp
    · rw [List.mem_cons, mem_compG, List.mem_cons (b := a)]
theorem asc_compG (O : STO lt) : ∀ {l : List α}, l.Pairwise (fun a b => lt b a = false) → Asc lt (compG l)
  | [], _ => List.Pairwise.nil
  | [a], _ => by simp [compG, Asc]
  | a :: b :: r, h => by
    rw [List.pairwise_cons] at h
    have ih := asc_compG O h.2
    rw [compG]
    split
    · exact ih
    · rename_i hn
      unfold Asc at *
      rw [List.pairwise_cons]
      refine ⟨fun y hy => ?_, ih⟩
      have hab : lt a b = true := by
        cases hx : lt a b with
        | true => rfl
        | false => exact absurd (O.tri a b hx (h.1 b List.mem_cons_self)) hn
      rcases List.mem_cons.1 (mem_compG.1 hy) with rfl | hy
      · exact hab
      · have hby := (List.pairwise_cons.1 h.2).1 y hy
        cases hx : lt b y with
        | true => exact O.trans _ _ _ hab hx
        | false => rw [← O.tri b y hx hby]; exact hab
/-- What sorting and striking make is what inserting makes. -/
theorem comp_set (O : STO lt) {l s : List α} (hm : ∀ x, x ∈ s ↔ x ∈ l) (hs : s.Pairwise fun a b => lt b a = false) : compG s = setG lt l :=
  asc_uniq O (asc_compG O hs) (setG_asc O l) (fun x => by rw [mem_compG, mem_setG O, hm])
/-- Without doubles sorting alone does. -/
theorem sort_set (O : STO lt) {l s : List α} (hm : ∀ x, x ∈ s ↔ x ∈ l) (hn : s.Nodup) (hs : s.Pairwise fun a b => lt b a = false) : s = setG lt l := by
  refine asc_uniq O ?_ (setG_asc O l) (fun x => by rw [mem_setG O, hm])
  unfold Asc
  have := hn.and hs
  refine this.imp fun {a b} h => ?_
  cases hx : lt a b with
  | true => rfl
  | false => exact absurd (O.tri a b hx h.2) h.1
theorem setG_len (O : STO lt) {l s : List α} (hm : ∀ x, x ∈ s ↔ x ∈ l) (hn : s.Nodup) : (setG lt l).length = s.length := by
  have h1 := asc_nodup O (setG_asc O l)
  have h2 : (setG lt l).Perm s := (List.perm_ext_iff_of_nodup h1 hn).2 (fun x => by rw [mem_setG O, hm])
  exact h2.length_eq
end

/-- Lists of numbers in the order of books. -/
def ltL : List Int → List Int → Bool
  | [], [] => false
  | [], _ :: _ => true
  | _ :: _, [] => false
  | a :: r, b :: s => decide (a < b) || (decide (a = b) && ltL r s)
theorem sto_int : STO (fun a b : Int => decide (a < b)) := ⟨by simp, by simp; omega, by simp; omega⟩
theorem sto_list : STO ltL := by
  refine ⟨fun a => ?_, fun a => ?_, fun a => ?_⟩
  · induction a with
    | nil => rfl
    | cons x r ih => simp [ltL, ih]
  · induction a with
    | nil => intro b c h1 h2; cases b <;> cases c <;> simp [ltL] at *
    | cons x r ih =>
      intro b c h1 h2
      cases b with
      | nil => simp [ltL] at h1
      | cons y s =>
        cases c with
        | nil => simp [ltL] at h2
        | cons z t =>
          simp only [ltL, Bool.or_eq_true, decide_eq_true_eq, Bool.and_eq_true] at *
          rcases h1 with h1 | ⟨h1, h3⟩
          · rcases h2 with h2 | ⟨h2, h4⟩
            · left; omega
            · left; omega
          · rcases h2 with h2 | ⟨h2, h4⟩
            · left; omega
            · right; exact ⟨by omega, ih s t h3 h4⟩
  · induction a with
    | nil => intro b h1 h2; cases b <;> simp [ltL] at *
    | cons x r ih =>
      intro b h1 h2
      cases b with
      | nil => simp [ltL] at h2
      | cons y s =>
        simp only [ltL, Bool.or_eq_false_iff, decide_eq_false_iff_not, Bool.and_eq_false_iff] at h1 h2
        have hxy : x = y := by omega
        subst hxy
        rw [ih s (by rcases h1.2 with h | h; exact absurd rfl h; exact h) (by rcases h2.2 with h | h; exact absurd rfl h; exact h)]
/-- First by a number, then by the rest. -/
def ltN {β : Type} (lt : β → β → Bool) (a b : Int × β) : Bool := decide (a.1 < b.1) || (decide (a.1 = b.1) && lt a.2 b.2)
theorem sto_pair {β : Type} {lt : β → β → Bool} (O : STO lt) : STO (ltN lt) := by
  refine ⟨fun a => by simp [ltN, O.irr], fun a b c h1 h2 => ?_, fun a b h1 h2 => ?_⟩
  · simp only [ltN, Bool.or_eq_true, decide_eq_true_eq, Bool.and_eq_true] at *
    rcases h1 with h1 | ⟨h1, h3⟩
    · rcases h2 with h2 | ⟨h2, h4⟩
      · left; omega
      · left; omega
    · rcases h2 with h2 | ⟨h2, h4⟩
      · left; omega
      · right; exact ⟨by omega, O.trans _ _ _ h3 h4⟩
  · simp only [ltN, Bool.or_eq_false_iff, decide_eq_false_iff_not, Bool.and_eq_false_iff] at h1 h2
    have hxy : a.1 = b.1 := by omega
    refine Prod.ext hxy (O.tri _ _ ?_ ?_)
    · rcases h1.2 with h | h
      · exact absurd hxy h
      · exact h
    · rcases h2.2 with h | h
      · exact absurd hxy.symm h
      · exact h
/-- A state of an instance; an arc of an instance. -/
abbrev Pl := Int × List Int
abbrev Mv := Int × Pl
abbrev Ar := Int × Int
def ltP : Pl → Pl → Bool := ltN ltL
def ltM : Mv → Mv → Bool := ltN ltP
def ltAr : Ar → Ar → Bool := ltN fun a b : Int => decide (a < b)
theorem sto_P : STO ltP := sto_pair sto_list
theorem sto_M : STO ltM := sto_pair sto_P
theorem sto_Ar : STO ltAr := sto_pair sto_int

end Go.Proofs.YtdknbgejhhoaiaaGreat.Ind

/- Plain: the instance of a register machine. No program. -/
namespace Go.Proofs.YtdknbgejhhoaiaaGreat.Ind
open Go.RowKit

def evB (m : RM) (n : Int) (a : RA) (v : Int) : Int :=
  if a.kind = 2 then 1 else if a.kind = 3 then 2 + m.data * n + a.ch else if a.kind = 4 ∨ a.kind = 5 then 2 + a.ch * n + v else 0
def setR (rs : List Int) (r v : Int) : List Int := if 0 ≤ r then rs.set r.toNat v else rs
def regR (rs : List Int) (r : Int) : Int := rs[r.toNat]?.getD 0
def freeB (a : RA) (rs : List Int) (v : Int) : Bool := !(a.not.any fun r => decide (regR rs r = v))
def valsB (n : Nat) (a : RA) (rs : List Int) : List Int := ((List.range n).map Int.ofNat).filter (freeB a rs)
def movesB (m : RM) (n : Nat) (p : Pl) (a : RA) : List Mv :=
  if a.kind = 5 then [(evB m n a (regR p.2 a.reg), a.to, p.2)]
  else if a.kind = 7 then [(evB m n a 0, a.to, setR p.2 a.reg (regR p.2 a.frm))]
  else if a.kind = 4 ∨ a.kind = 6 then (valsB n a p.2).map fun v => (evB m n a v, a.to, setR p.2 a.reg v)
  else [(evB m n a 0, a.to, p.2)]
def arcsOf (m : RM) (p : Pl) : List RA := m.states[p.1.toNat]?.getD []
def allM (m : RM) (n : Nat) (p : Pl) : List Mv := (arcsOf m p).flatMap (movesB m n p)
def edgesB (m : RM) (n : Nat) (p : Pl) : List Mv := setG ltM (allM m n p)

def numP (all : List Pl) (p : Pl) : List Pl × Nat := if p ∈ all then (all, all.idxOf p) else (all ++ [p], all.length)
def addM (s : List Pl × List Ar) (x : Mv) : List Pl × List Ar := ((numP s.1 x.2).1, s.2 ++ [(x.1, ((numP s.1 x.2).2 : Int))])
def rowF (all : List Pl) (xs : List Mv) : List Pl × List Ar := xs.foldl addM (all, [])
structure BS where
  all : List Pl
  rows : List (List Ar)
  tot : Nat
def bstep (m : RM) (n : Nat) (s : BS) (i : Nat) : BS :=
  ⟨(rowF s.all (edgesB m n (s.all[i]?.getD (0, [])))).1, s.rows ++ [setG ltAr (rowF s.all (edgesB m n (s.all[i]?.getD (0, [])))).2], s.tot + (setG ltAr (rowF s.all (edgesB m n (s.all[i]?.getD (0, [])))).2).length⟩
def fullB (s : BS) : Bool := decide (16384 < s.all.length) || decide (262144 < s.tot)
def instGo (m : RM) (n : Nat) : Nat → BS → Nat → Option (List (List Ar))
  | 0, _, _ => none
  | f + 1, s, i => if i < s.all.length then (if fullB (bstep m n s i) = true then none else instGo m n f (bstep m n s i) (i + 1)) else some s.rows
def start0 : BS := ⟨[(0, [0, 0, 0, 0])], [], 0⟩
def instR (m : RM) (n : Nat) : Option (List (List Ar)) := instGo m n 16400 start0 0

/-- A place of an instance of m. -/
def GoodP (m : RM) (p : Pl) : Prop := p.2.length = 4 ∧ 0 ≤ p.1 ∧ p.1 < m.states.length ∧ ∀ v ∈ p.2, 0 ≤ v ∧ v < 12
theorem below_iff {n l : Int} : belowB n l = true ↔ 0 ≤ n ∧ n < l := by simp [belowB]
section
variable {m : RM} {n : Nat} {p : Pl} {a : RA}
theorem validM_arc (h : validM m = true) {row : List RA} (hr : row ∈ m.states) (ha : a ∈ row) : arcB m a = true := by
  simp only [validM, Bool.and_eq_true, List.all_eq_true] at h
  exact (h.2 row hr).2 a ha
theorem validM_row (h : validM m = true) {row : List RA} (hr : row ∈ m.states) : row.length ≤ 16 := by
  simp only [validM, Bool.and_eq_true, List.all_eq_true, decide_eq_true_eq] at h
  exact (h.2 row hr).1
structure RmOk (m : RM) : Prop where
  r0 : 0 ≤ m.regs
  r1 : m.regs ≤ 4
  d0 : 0 ≤ m.data
  d1 : m.data ≤ 8
  p0 : 0 ≤ m.plain
  p1 : m.plain ≤ 8
  s0 : 1 ≤ m.states.length
  s1 : m.states.length ≤ 64
theorem validM_ok (h : validM m = true) : RmOk m := by
  simp only [validM, Bool.and_eq_true, below_iff, decide_eq_true_eq] at h
  obtain ⟨⟨⟨⟨⟨h1, h2⟩, h3⟩, h4⟩, h5⟩, _⟩ := h
  exact ⟨h1.1, by omega, h2.1, by omega, h3.1, by omega, h4, h5⟩
/-- What holds of a valid arc. -/
structure RaOk (m : RM) (a : RA) : Prop where
  t0 : 0 ≤ a.to
  t1 : a.to < m.states.length
  k : 1 ≤ a.kind ∧ a.kind ≤ 7
  ch : 0 ≤ a.ch ∧ a.ch ≤ 8
  reg : -1 ≤ a.reg ∧ a.reg < 4
  frm : 0 ≤ a.frm ∧ a.frm < 4
  reg5 : a.kind ≠ 4 → 0 ≤ a.reg
  not : ∀ r ∈ a.not, 0 ≤ r ∧ r < 4
  not4 : a.kind ≠ 4 → a.not = []
  asc : ascB a.not = true
theorem arc_ok (hm : RmOk m) (h : arcB m a = true) : RaOk m a := by
  obtain ⟨kind, ch, reg, frm, not, tgt⟩ := a
  have := hm.r0; have := hm.r1; have := hm.d0; have := hm.d1; have := hm.p0; have := hm.p1
  simp only [arcB, Bool.and_eq_true, below_iff, restB] at h
  obtain ⟨⟨t0, t1⟩, h⟩ := h
  by_cases h12 : kind = 1 ∨ kind = 2
  · rw [if_pos h12] at h
    simp at h
    obtain ⟨⟨⟨h1, h2⟩, h3⟩, h4⟩ := h
    exact ⟨t0, t1, by simp; omega, by simp; omega, by simp; omega, by simp; omega, by simp; omega, by simp [h4], by simp [h4], by simp [h4, ascB]⟩
  · rw [if_neg h12] at h
    by_cases h3 : kind = 3
    · rw [if_pos h3] at h
      simp [below_iff] at h
      obtain ⟨⟨h1, h2, h3⟩, h4⟩ := h
      exact ⟨t0, t1, by simp; omega, by simp; omega, by simp; omega, by simp; omega, by simp; omega, by simp [h4], by simp [h4], by simp [h4, ascB]⟩
    · rw [if_neg h3] at h
      by_cases h4 : kind = 4
      · rw [if_pos h4] at h
        simp [below_iff] at h
        obtain ⟨⟨⟨h1, h2⟩, h5⟩, h6⟩ := h
        simp only [notB, Bool.and_eq_true, List.all_eq_true, below_iff] at h5
        exact ⟨t0, t1, by simp; omega, by simp; omega, by simp; omega, by simp; omega, by simp; omega, fun r hr => by have := h5.1 r hr; omega, by simp; omega, h5.2⟩
      · rw [if_neg h4] at h
        by_cases h5 : kind = 5
        · rw [if_pos h5] at h
          simp [below_iff] at h
          obtain ⟨⟨⟨h1, h2⟩, h6⟩, h7⟩ := h
          exact ⟨t0, t1, by simp; omega, by simp; omega, by simp; omega, by simp; omega, by simp; omega, by simp [h7], by simp [h7], by simp [h7, ascB]⟩
        · rw [if_neg h5] at h
          by_cases h6 : kind = 6
          · rw [if_pos h6] at h
            simp [below_iff] at h
            obtain ⟨⟨h1, h2, h8⟩, h7⟩ := h
            exact ⟨t0, t1, by simp; omega, by simp; omega, by simp; omega, by simp; omega, by simp; omega, by simp [h7], by simp [h7], by simp [h7, ascB]⟩
          · rw [if_neg h6] at h
            by_cases h8 : kind = 7
            · rw [if_pos h8] at h
              simp [below_iff] at h
              obtain ⟨⟨⟨h1, h2⟩, h9⟩, h7⟩ := h
              exact ⟨t0, t1, by simp; omega, by simp; omega, by simp; omega, by simp; omega, by simp; omega, by simp [h7], by simp [h7], by simp [h7, ascB]⟩
            · rw [if_neg h8] at h
              cases h
theorem arcs_ok (h : validM m = true) {x : RA} (hx : x ∈ arcsOf m p) : RaOk m x := by
  unfold arcsOf at hx
  cases hr : m.states[p.1.toNat]? with
  | none => rw [hr] at hx; cases hx
  | some row =>
    rw [hr] at hx
    exact arc_ok (validM_ok h) (validM_arc h (List.mem_of_getElem? hr) hx)
theorem arcs_len (h : validM m = true) : (arcsOf m p).length ≤ 16 := by
  unfold arcsOf
  cases hr : m.states[p.1.toNat]? with
  | none => simp
  | some row => exact validM_row h (List.mem_of_getElem? hr)
theorem regR_ok (hp : GoodP m p) (r : Int) : 0 ≤ regR p.2 r ∧ regR p.2 r < 12 := by
  unfold regR
  cases hr : p.2[r.toNat]? with
  | none => simp
  | some v => exact hp.2.2.2 v (List.mem_of_getElem? hr)
theorem setR_len (rs : List Int) (r v : Int) : (setR rs r v).length = rs.length := by unfold setR; split <;> simp
theorem setR_mem {rs : List Int} {r v x : Int} (h : x ∈ setR rs r v) : x ∈ rs ∨ x = v := by
  unfold setR at h
  split at h
  · exact List.mem_or_eq_of_mem_set h
  · exact .inl h
theorem vals_mem {v : Int} {rs : List Int} (h : v ∈ valsB n a rs) : 0 ≤ v ∧ v < n := by
  simp only [valsB, List.mem_filter, List.mem_map, List.mem_range] at h
  obtain ⟨⟨k, hk, rfl⟩, _⟩ := h
  exact ⟨Int.natCast_nonneg k, by simpa using hk⟩
theorem vals_len (rs : List Int) : (valsB n a rs).length ≤ n := by
  unfold valsB
  refine Nat.le_trans (List.length_filter_le _ _) (by simp)
theorem moves_good (ha : RaOk m a) (hp : GoodP m p) (hn : n ≤ 12) {x : Mv} (hx : x ∈ movesB m n p a) : GoodP m x.2 := by
  unfold movesB at hx
  obtain ⟨h1, h2, h3, h4⟩ := hp
  have t0 := ha.t0
  have t1 := ha.t1
  split at hx
  · rw [List.mem_singleton.1 hx]
    exact ⟨h1, t0, t1, h4⟩
  · split at hx
    · rw [List.mem_singleton.1 hx]
      refine ⟨by rw [setR_len]; exact h1, t0, t1, fun v hv => ?_⟩
      rcases setR_mem hv with hv | rfl
      · exact h4 v hv
      · exact regR_ok (m := m) ⟨h1, h2, h3, h4⟩ _
    · split at hx
      · obtain ⟨v, hv, rfl⟩ := List.mem_map.1 hx
        refine ⟨by rw [setR_len]; exact h1, t0, t1, fun u hu => ?_⟩
        rcases setR_mem hu with hu | rfl
        · exact h4 u hu
        · have := vals_mem hv
          omega
      · rw [List.mem_singleton.1 hx]
        exact ⟨h1, t0, t1, h4⟩
theorem moves_len (hn : n ≤ 12) : (movesB m n p a).length ≤ 12 := by
  unfold movesB
  split
  · simp
  · split
    · simp
    · split
      · rw [List.length_map]; exact Nat.le_trans (vals_len _) hn
      · simp
theorem flat_len {α β : Type} (f : α → List β) (k : Nat) : ∀ (l : List α), (∀ x ∈ l, (f x).length ≤ k) → (l.flatMap f).length ≤ l.length * k
  | [], _ => by simp
  | a :: r, h => by
    have h1 := h a List.mem_cons_self
    have h2 := flat_len f k r (fun x hx => h x (List.mem_cons_of_mem _ hx))
    rw [List.flatMap_cons, List.length_append, List.length_cons, Nat.succ_mul]
    omega
theorem allM_len (h : validM m = true) (hn : n ≤ 12) : (allM m n p).length ≤ 192 := by
  have h1 := flat_len (movesB m n p) 12 (arcsOf m p) (fun x _ => moves_len hn)
  have h2 := arcs_len (p := p) h
  unfold allM
  omega
theorem insG_len {α : Type} [DecidableEq α] (lt : α → α → Bool) : ∀ (l : List α) (x : α), (insG lt l x).length ≤ l.length + 1
  | [], x => by simp [insG]
  | a :: r, x => by
    rw [insG]
    have := insG_len lt r x
    split
    · simp; omega
    · split <;> simp
theorem setG_le {α : Type} [DecidableEq α] (lt : α → α → Bool) (l : List α) : (setG lt l).length ≤ l.length := by
  have : ∀ (l acc : List α), (l.foldl (insG lt) acc).length ≤ acc.length + l.length := fun l => by
    induction l with
    | nil => simp
    | cons x r ih =>
      intro acc
      have h1 := ih (insG lt acc x)
      have h2 := insG_len lt acc x
      simp only [List.foldl_cons, List.length_cons]
      omega
  have := this l []
  simpa [setG] using this
theorem edges_len (h : validM m = true) (hn : n ≤ 12) : (edgesB m n p).length ≤ 192 := Nat.le_trans (setG_le _ _) (allM_len h hn)
theorem edges_good (h : validM m = true) (hp : GoodP m p) (hn : n ≤ 12) {x : Mv} (hx : x ∈ edgesB m n p) : GoodP m x.2 := by
  unfold edgesB at hx
  rw [mem_setG sto_M, allM, List.mem_flatMap] at hx
  obtain ⟨a, ha, hx⟩ := hx
  exact moves_good (arcs_ok h ha) hp hn hx
theorem edges_nodup : (edgesB m n p).Nodup := asc_nodup sto_M (setG_asc sto_M _)
end

structure RF (all : List Pl) (xs : List Mv) (s : List Pl × List Ar) : Prop where
  nodup : s.1.Nodup
  pre : ∃ r, s.1 = all ++ r
  len : s.1.length ≤ all.length + xs.length
  row : s.2.map (fun a => (a.1, s.1[a.2.toNat]?.getD (0, []))) = xs
  bnd : ∀ a ∈ s.2, 0 ≤ a.2 ∧ a.2 < s.1.length
  mem : ∀ q ∈ s.1, q ∈ all ∨ ∃ x ∈ xs, x.2 = q
theorem num_ok (all : List Pl) (p : Pl) (h : all.Nodup) : (numP all p).1.Nodup ∧ (∃ r, (numP all p).1 = all ++ r ∧ r.length ≤ 1 ∧ ∀ q ∈ r, q = p) ∧ (numP all p).1[(numP all p).2]? = some p ∧ (numP all p).2 < (numP all p).1.length := by
  unfold numP
  split
  · rename_i hp
    have h1 := List.idxOf_lt_length_of_mem hp
    refine ⟨h, ⟨[], by simp, by simp, by simp⟩, ?_, h1⟩
    show all[all.idxOf p]? = some p
    rw [List.getElem?_eq_getElem h1, List.getElem_idxOf]
  · rename_i hp
    refine ⟨?_, ⟨[p], rfl, by simp, by simp⟩, by simp, by simp⟩
    rw [List.nodup_append]
    exact ⟨h, by simp, fun a ha b hb => by rw [List.mem_singleton.1 hb]; exact fun e => hp (e ▸ ha)⟩
theorem RF.snoc {all : List Pl} {xs : List Mv} {s : List Pl × List Ar} (h : RF all xs s) (x : Mv) : RF all (xs ++ [x]) (addM s x) := by
  obtain ⟨h1, ⟨r0, h2⟩, h3, h4, h5, h6⟩ := h
  obtain ⟨n1, ⟨r, n2, n3, n4⟩, n5, n6⟩ := num_ok s.1 x.2 h1
  unfold addM
  refine ⟨n1, ⟨r0 ++ r, by rw [n2, h2, List.append_assoc]⟩, ?_, ?_, ?_, ?_⟩
  · show (numP s.1 x.2).1.length ≤ _
    rw [n2, List.length_append, List.length_append]
    simp only [List.length_cons, List.length_nil]
    omega
  · show List.map _ (s.2 ++ [(x.1, ((numP s.1 x.2).2 : Int))]) = _
    rw [List.map_append]
    congr 1
    · rw [← h4]
      refine List.map_congr_left fun a ha => ?_
      have hb := h5 a ha
      show (a.1, (numP s.1 x.2).1[a.2.toNat]?.getD (0, [])) = _
      rw [n2, List.getElem?_append_left (by omega)]
    · show [(x.1, (numP s.1 x.2).1[(((numP s.1 x.2).2 : Int)).toNat]?.getD (0, []))] = _
      rw [Int.toNat_natCast, n5]
      rfl
  · intro a ha
    show 0 ≤ a.2 ∧ a.2 < ((numP s.1 x.2).1.length : Int)
    rcases List.mem_append.1 ha with ha | ha
    · have hb := h5 a ha
      rw [n2, List.length_append]
      omega
    · rw [List.mem_singleton.1 ha]
      exact ⟨by simp, by simpa using n6⟩
  · intro q hq
    have hq2 : q ∈ s.1 ++ r := by rw [← n2]; exact hq
    rcases List.mem_append.1 hq2 with hq2 | hq2
    · rcases h6 q hq2 with h7 | ⟨y, hy, e⟩
      · exact .inl h7
      · exact .inr ⟨y, List.mem_append_left _ hy, e⟩
    · exact .inr ⟨x, by simp, (n4 q hq2).symm⟩
theorem rf_go {all : List Pl} : ∀ (ys xs : List Mv) (s : List Pl × List Ar), RF all xs s → RF all (xs ++ ys) (ys.foldl addM s)
  | [], xs, s, h => by simpa using h
  | y :: r, xs, s, h => by
    have := rf_go r (xs ++ [y]) (addM s y) (h.snoc y)
    simpa using this
theorem rf {all : List Pl} (h : all.Nodup) (xs : List Mv) : RF all xs (rowF all xs) := by
  have := rf_go (all := all) xs [] (all, []) ⟨h, ⟨[], by simp⟩, by simp, rfl, by simp, fun q hq => .inl hq⟩
  simpa [rowF] using this
theorem rowF_snoc (all : List Pl) (xs : List Mv) (x : Mv) : rowF all (xs ++ [x]) = addM (rowF all xs) x := by simp [rowF]
theorem RF.row_len {all : List Pl} {xs : List Mv} {s : List Pl × List Ar} (h : RF all xs s) : s.2.length = xs.length := by
  have := congrArg List.length h.row
  simpa using this
theorem RF.row_nodup {all : List Pl} {xs : List Mv} {s : List Pl × List Ar} (h : RF all xs s) (hx : xs.Nodup) : s.2.Nodup := by
  rw [← h.row] at hx
  exact List.Pairwise.of_map _ (fun a b h e => h (by rw [e])) hx
/-- What holds of the states and rows that have been gathered. -/
structure BsOk (m : RM) (n : Nat) (s : BS) (i : Nat) : Prop where
  nodup : s.all.Nodup
  good : ∀ q ∈ s.all, GoodP m q
  rows : s.rows.length = i
  row : ∀ r ∈ s.rows, r.length ≤ 192
theorem bs_start {m : RM} {n : Nat} (h : validM m = true) : BsOk m n start0 0 := by
  have h1 := (validM_ok h).s0
  refine ⟨by simp [start0], fun q hq => ?_, rfl, by simp [start0]⟩
  rw [show q = (0, [0, 0, 0, 0]) by simpa [start0] using hq]
  refine ⟨rfl, Int.le_refl _, by show (0 : Int) < _; omega, fun v hv => ?_⟩
  have : v = 0 := by simpa using hv
  omega
theorem BsOk.at_ {m : RM} {n : Nat} {s : BS} {i : Nat} (h : BsOk m n s i) {k : Nat} (hk : k < s.all.length) : ∃ p, s.all[k]? = some p ∧ GoodP m p :=
  ⟨_, List.getElem?_eq_getElem hk, h.good _ (List.getElem_mem hk)⟩
theorem BsOk.step {m : RM} {n : Nat} {s : BS} {i : Nat} (h : BsOk m n s i) (hv : validM m = true) (hn : n ≤ 12) (hi : i < s.all.length) : BsOk m n (bstep m n s i) (i + 1) ∧ (bstep m n s i).all.length ≤ s.all.length + 192 := by
  obtain ⟨p, hp, hg⟩ := h.at_ hi
  have hr := rf h.nodup (edgesB m n p)
  have hl := edges_len (p := p) hv hn
  unfold bstep
  rw [hp, Option.getD_some]
  refine ⟨⟨hr.nodup, fun q hq => ?_, by simp [h.rows], fun r hr2 => ?_⟩, by have := hr.len; show (rowF s.all (edgesB m n p)).1.length ≤ _; omega⟩
  · rcases hr.mem q hq with hq | ⟨x, hx, rfl⟩
    · exact h.good q hq
    · exact edges_good hv hg hn hx
  · rcases List.mem_append.1 hr2 with hr2 | hr2
    · exact h.row r hr2
    · rw [List.mem_singleton.1 hr2]
      have := setG_le ltAr (rowF s.all (edgesB m n p)).2
      have := hr.row_len
      omega

end Go.Proofs.YtdknbgejhhoaiaaGreat.Ind
