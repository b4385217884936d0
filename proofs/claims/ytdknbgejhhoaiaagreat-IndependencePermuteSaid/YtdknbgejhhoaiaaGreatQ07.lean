/- Texts I0, I1, I2. -/
import Derived.Test.YtdknbgejhhoaiaaGreatQ03
/- Register machines: the plain model, how they lie in memory. -/
namespace Go.Proofs.YtdknbgejhhoaiaaGreat.Ind
open Go.RowKit

/-- An arc: kind, channel, register, source, the registers that must differ, target. -/
structure RA where
  kind : Int
  ch : Int
  reg : Int
  frm : Int
  not : List Int
  to : Int
structure RM where
  regs : Int
  data : Int
  plain : Int
  states : List (List RA)
def belowB (n limit : Int) : Bool := decide (0 ≤ n) && decide (n < limit)
def ascB : List Int → Bool
  | a :: b :: r => decide (a < b) && ascB (b :: r)
  | _ => true
def notB (regs : Int) (l : List Int) : Bool := l.all (fun r => belowB r regs) && ascB l
def restB (a : RA) (ch reg frm : Bool) : Bool := (ch || a.ch == 0) && (reg || a.reg == 0) && (frm || a.frm == 0)
/-- An arc is valid. -/
def arcB (m : RM) (a : RA) : Bool :=
  belowB a.to m.states.length &&
  (if a.kind = 1 ∨ a.kind = 2 then restB a false false false && a.not.isEmpty
  else if a.kind = 3 then belowB a.ch m.plain && restB a true false false && a.not.isEmpty
  else if a.kind = 4 then belowB a.ch m.data && (a.reg == -1 || belowB a.reg m.regs) && notB m.regs a.not && restB a true true false
  else if a.kind = 5 then belowB a.ch m.data && belowB a.reg m.regs && restB a true true false && a.not.isEmpty
  else if a.kind = 6 then belowB a.reg m.regs && restB a false true false && a.not.isEmpty
  else if a.kind = 7 then belowB a.reg m.regs && belowB a.frm m.regs && restB a false true true && a.not.isEmpty
  else false)
def validM (m : RM) : Bool := belowB m.regs 5 && belowB m.data 9 && belowB m.plain 9 && decide (1 ≤ m.states.length) && decide (m.states.length ≤ 64) && m.states.all fun r => decide (r.length ≤ 16) && r.all (arcB m)

def arcC (p : Value × RA) : List Value := [.int .i64 p.2.kind, .int .i64 p.2.ch, .int .i64 p.2.reg, .int .i64 p.2.frm, p.1, .int .i64 p.2.to]
def rowC (l : List (Value × RA)) : List Value := l.flatMap arcC
theorem rowC_len (l : List (Value × RA)) : (rowC l).length = l.length * 6 := by
  induction l with
  | nil => rfl
  | cons p r ih =>
    simp only [rowC, arcC, List.flatMap_cons, List.length_append, List.length_cons, List.length_nil] at ih ⊢
    omega
theorem rowC_get : ∀ {l : List (Value × RA)} {i : Nat} {p : Value × RA}, l[i]? = some p → ∀ j, j < 6 → (rowC l)[i * 6 + j]? = (arcC p)[j]?
  | [], i, p, h, j, hj => by simp at h
  | q :: r, 0, p, h, j, hj => by
    simp only [List.getElem?_cons_zero, Option.some.injEq] at h
    subst h
    rw [rowC, List.flatMap_cons, Nat.zero_mul, Nat.zero_add, List.getElem?_append_left (by simp [arcC]; omega)]
  | q :: r, i + 1, p, h, j, hj => by
    rw [List.getElem?_cons_succ] at h
    rw [rowC, List.flatMap_cons, List.getElem?_append_right (by simp [arcC]; omega), ← rowC_get h j hj]
    have e : (i + 1) * 6 + j - (arcC q).length = i * 6 + j := by simp [arcC]; omega
    rw [e]
    rfl
/-- A row of arcs that is only read. -/
def ArcsAt (w : World) (F : List Nat) (v : Value) (row : List RA) : Prop :=
  ∃ l : List (Value × RA), l.map (·.2) = row ∧ RowV w F v row.length 6 (rowC l) ∧ ∀ p ∈ l, RowV w F p.1 p.2.not.length 1 (ints p.2.not)
/-- The rows of all states. -/
def StatesAt (w : World) (F : List Nat) (v : Value) (st : List (List RA)) : Prop :=
  ∃ l : List (Value × List RA), l.map (·.2) = st ∧ RowV w F v st.length 1 (l.map (·.1)) ∧ ∀ p ∈ l, ArcsAt w F p.1 p.2
def machV (m : RM) (sv : Value) : Value := .agg #[.int .i64 m.regs, .int .i64 m.data, .int .i64 m.plain, sv]
section
variable {w w' : World} {F F' fp : List Nat} {v : Value} {row : List RA} {st : List (List RA)}
theorem ArcsAt.step (h : ArcsAt w F v row) (hf : Frm fp w w') (hn : ∀ k ∈ fp, k ∈ F ∨ w.heap.size ≤ k) (hF : ∀ k ∈ F', k ∈ F ∨ w.heap.size ≤ k) : ArcsAt w' F' v row := by
  obtain ⟨l, h1, h2, h3⟩ := h
  exact ⟨l, h1, h2.step hf hn hF, fun p hp => (h3 p hp).step hf hn hF⟩
theorem ArcsAt.nil (h : ArcsAt w F v row) (hf : Frm [] w w') : ArcsAt w' F v row := h.step hf (by simp) (fun _ hk => .inl hk)
theorem StatesAt.step (h : StatesAt w F v st) (hf : Frm fp w w') (hn : ∀ k ∈ fp, k ∈ F ∨ w.heap.size ≤ k) (hF : ∀ k ∈ F', k ∈ F ∨ w.heap.size ≤ k) : StatesAt w' F' v st := by
  obtain ⟨l, h1, h2, h3⟩ := h
  exact ⟨l, h1, h2.step hf hn hF, fun p hp => (h3 p hp).step hf hn hF⟩
theorem StatesAt.nil (h : StatesAt w F v st) (hf : Frm [] w w') : StatesAt w' F v st := h.step hf (by simp) (fun _ hk => .inl hk)
/-- Row i of the states. -/
theorem StatesAt.at_ (h : StatesAt w F v st) {i : Nat} {r : List RA} (hr : st[i]? = some r) : ∃ b o c a n cc, v = .slice (some ⟨b, o, none⟩) st.length c ∧ st.length ≤ c ∧ c ≤ maxLen ∧ b ∉ F ∧ w.cell? ⟨b, o + i, none⟩ = some (.slice a n cc) ∧ n = r.length ∧ ArcsAt w F (.slice a n cc) r := by
  obtain ⟨l, h1, h2, h3⟩ := h
  have hr2 : (l.map (·.2))[i]? = some r := by rw [h1]; exact hr
  rw [List.getElem?_map] at hr2
  cases hl : l[i]? with
  | none => rw [hl] at hr2; cases hr2
  | some p =>
    rw [hl] at hr2
    simp only [Option.map_some, Option.some.injEq] at hr2
    subst hr2
    have ha := h3 p (List.mem_of_getElem? hl)
    obtain ⟨l2, e2, ⟨_, a, cc, e3, _⟩, _⟩ := ha
    obtain ⟨_, va, c, ev, hc1, hc2, _, hcell⟩ := h2
    obtain ⟨b, o, rfl, hb, _, hc⟩ := hcell i p.1 (by rw [List.getElem?_map, hl]; rfl)
    rw [e3] at hc
    have ha := h3 p (List.mem_of_getElem? hl)
    rw [e3] at ha
    exact ⟨b, o, c, a, _, cc, ev, hc1, hc2, hb, hc, rfl, ha⟩
end

end Go.Proofs.YtdknbgejhhoaiaaGreat.Ind

/- Plain: what is asked of the list of registers, said in two ways; arcs that may stand side by side. No program. -/
namespace Go.Proofs.YtdknbgejhhoaiaaGreat.Ind
open Go.RowKit

theorem ascB_cons {a : Int} : ∀ {l : List Int}, ascB (a :: l) = true → ∀ x ∈ l, a < x
  | [], _, x, hx => by cases hx
  | b :: r, h, x, hx => by
    rw [ascB, Bool.and_eq_true, decide_eq_true_eq] at h
    rcases List.mem_cons.1 hx with rfl | hx
    · exact h.1
    · have := ascB_cons h.2 x hx
      omega
theorem ascB_tail {a : Int} {l : List Int} (h : ascB (a :: l) = true) : ascB l = true := by
  cases l with
  | nil => rfl
  | cons b r => rw [ascB, Bool.and_eq_true] at h; exact h.2
theorem ascB_last : ∀ {l : List Int} {z : Int}, ascB l = true → l.getLast? = some z → ∀ x ∈ l, x ≤ z
  | [], z, _, h, x, hx => by cases hx
  | [a], z, _, h, x, hx => by
    simp at h hx
    omega
  | a :: b :: r, z, h, hz, x, hx => by
    rw [List.getLast?_cons_cons] at hz
    have ih := ascB_last (ascB_tail h) hz
    rcases List.mem_cons.1 hx with rfl | hx
    · have := ascB_cons h b List.mem_cons_self
      have := ih b List.mem_cons_self
      omega
    · exact ih x hx
/-- The reference asks the ends alone. -/
theorem notB_ends (regs : Int) (l : List Int) : notB regs l = (ascB l && (match l.head?, l.getLast? with | some a, some z => decide (0 ≤ a) && decide (z < regs) | _, _ => true)) := by
  rw [notB, Bool.and_comm]
  cases h : ascB l with
  | false => rfl
  | true =>
    simp only [Bool.true_and]
    cases l with
    | nil => rfl
    | cons a r =>
      obtain ⟨z, hz⟩ : ∃ z, (a :: r).getLast? = some z := ⟨_, List.getLast?_eq_some_getLast (by simp)⟩
      rw [hz]
      simp only [List.head?_cons]
      rw [Bool.eq_iff_iff]
      constructor
      · intro h1
        rw [List.all_eq_true] at h1
        have ha := h1 a List.mem_cons_self
        have hzz := h1 z (List.mem_of_getLast? hz)
        simp [belowB] at ha hzz ⊢
        exact ⟨ha.1, hzz.2⟩
      · intro h1
        simp at h1
        rw [List.all_eq_true]
        intro x hx
        have hl := ascB_last h hz x hx
        have hf : a ≤ x := by
          rcases List.mem_cons.1 hx with rfl | hx
          · exact Int.le_refl _
          · exact Int.le_of_lt (ascB_cons h x hx)
        simp [belowB]
        omega

end Go.Proofs.YtdknbgejhhoaiaaGreat.Ind

/- Plain: machines in norm, as the program and as the reference ask it. No program. -/
namespace Go.Proofs.YtdknbgejhhoaiaaGreat.Ind
open Go.RowKit

/-- Two arcs may stand side by side. -/
def PairP (a b : RA) : Prop := ¬(a.kind = b.kind ∧ a.ch = b.ch) ∧ (a.kind = 4 → b.kind = 5 → a.ch = b.ch → b.reg ∈ a.not) ∧ (a.kind = 5 → b.kind = 4 → a.ch = b.ch → a.reg ∈ b.not)
theorem PairP.symm {a b : RA} (h : PairP a b) : PairP b a :=
  ⟨fun ⟨h1, h2⟩ => h.1 ⟨h1.symm, h2.symm⟩, fun h1 h2 h3 => h.2.2 h2 h1 h3.symm, fun h1 h2 h3 => h.2.1 h2 h1 h3.symm⟩
/-- A state is in norm. -/
def NormP (row : List RA) : Prop := (∀ a ∈ row, a.kind ≠ 1 ∧ a.kind ≠ 6 ∧ a.kind ≠ 7) ∧ row.Pairwise PairP
/-- As the reference compares two arcs, the first of which is no output before an input. -/
def pair1 (a b : RA) : Bool := if a.kind = 4 ∧ b.kind = 5 ∧ a.ch = b.ch then decide (b.reg ∈ a.not) else !(a.kind == b.kind) || (!(a.kind == 2) && !(a.ch == b.ch))
def pair2 (a b : RA) : Bool := if a.kind = 5 ∧ b.kind = 4 then pair1 b a else pair1 a b
def TickOk (a : RA) : Prop := a.kind = 2 → a.ch = 0
theorem pair1_iff {a b : RA} (ha : TickOk a) (hb : TickOk b) (h : ¬(a.kind = 5 ∧ b.kind = 4)) : pair1 a b = true ↔ PairP a b := by
  unfold pair1 PairP TickOk at *
  by_cases hc : a.kind = 4 ∧ b.kind = 5 ∧ a.ch = b.ch
  · rw [if_pos hc, decide_eq_true_eq]
    obtain ⟨h1, h2, h3⟩ := hc
    constructor
    · intro hm
      exact ⟨fun hk => by omega, fun _ _ _ => hm, fun h5 => by omega⟩
    · intro hp
      exact hp.2.1 h1 h2 h3
  · rw [if_neg hc]
    simp only [Bool.or_eq_true, Bool.and_eq_true, Bool.not_eq_true', beq_eq_false_iff_ne, ne_eq]
    constructor
    · intro hk
      refine ⟨fun ⟨h1, h2⟩ => ?_, fun h1 h2 h3 => absurd ⟨h1, h2, h3⟩ hc, fun h1 h2 => absurd ⟨h1, h2⟩ h⟩
      rcases hk with hk | ⟨_, hk⟩
      · exact hk h1
      · exact hk h2
    · intro hp
      by_cases hk : a.kind = b.kind
      · right
        refine ⟨fun h2 => hp.1 ⟨hk, ?_⟩, fun h2 => hp.1 ⟨hk, h2⟩⟩
        rw [ha h2, hb (hk ▸ h2)]
      · exact .inl hk
theorem pair2_iff {a b : RA} (ha : TickOk a) (hb : TickOk b) : pair2 a b = true ↔ PairP a b := by
  unfold pair2
  split
  · rename_i h
    rw [pair1_iff hb ha (by omega)]
    exact ⟨PairP.symm, PairP.symm⟩
  · rename_i h
    exact pair1_iff ha hb h
theorem tick_of_arc {m : RM} {a : RA} (h : arcB m a = true) : TickOk a := fun hk => by
  simp only [arcB, Bool.and_eq_true, restB] at h
  rw [if_pos (Or.inr hk)] at h
  have h2 := h.2
  simp only [Bool.and_eq_true, Bool.false_or, beq_iff_eq] at h2
  exact h2.1.1.1
theorem norm_snoc {row : List RA} {a : RA} : NormP (row ++ [a]) ↔ NormP row ∧ (a.kind ≠ 1 ∧ a.kind ≠ 6 ∧ a.kind ≠ 7) ∧ ∀ b ∈ row, PairP b a := by
  simp only [NormP, List.mem_append, List.mem_singleton, List.pairwise_append]
  constructor
  · rintro ⟨h1, h2, _, h3⟩
    exact ⟨⟨fun x hx => h1 x (.inl hx), h2⟩, h1 a (.inr rfl), fun b hb => h3 b hb a rfl⟩
  · rintro ⟨⟨h1, h2⟩, h3, h4⟩
    refine ⟨fun x hx => ?_, h2, by simp, fun b hb x hx => ?_⟩
    · rcases hx with hx | rfl
      · exact h1 x hx
      · exact h3
    · rw [hx]; exact h4 b hb
/-- A machine is in norm. -/
def NormM (m : RM) : Prop := validM m = true ∧ ∀ row ∈ m.states, NormP row

end Go.Proofs.YtdknbgejhhoaiaaGreat.Ind
