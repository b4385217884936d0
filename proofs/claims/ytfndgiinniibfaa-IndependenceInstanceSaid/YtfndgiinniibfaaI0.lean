/- Register machines: the plain model, how they lie in memory. -/
import Derived.Test.YtfndgiinniibfaaRW
namespace Go.Proofs.Ytfndgiinniibfaa.Ind
open Go.RowKit

/-- An arc: kind, channel, register, source, the registers that must differ, target. -/
structure RA where
  kind : Int
  ch : Int
  reg : Int
  frm : Int
  not : List Int
  to : Int
structure RM where
  regs : Int
  data : Int
  plain : Int
  states : List (List RA)
def belowB (n limit : Int) : Bool := decide (0 ≤ n) && decide (n < limit)
def ascB : List Int → Bool
  | a :: b :: r => decide (a < b) && ascB (b :: r)
  | _ => true
def notB (regs : Int) (l : List Int) : Bool := l.all (fun r => belowB r regs) && ascB l
def restB (a : RA) (ch reg frm : Bool) : Bool := (ch || a.ch == 0) && (reg || a.reg == 0) && (frm || a.frm == 0)
/-- An arc is valid. -/
def arcB (m : RM) (a : RA) : Bool :=
  belowB a.to m.states.length &&
  (if a.kind = 1 ∨ a.kind = 2 then restB a false false false && a.not.isEmpty
  else if a.kind = 3 then belowB a.ch m.plain && restB a true false false && a.not.isEmpty
  else if a.kind = 4 then belowB a.ch m.data && (a.reg == -1 || belowB a.reg m.regs) && notB m.regs a.not && restB a true true false
  else if a.kind = 5 then belowB a.ch m.data && belowB a.reg m.regs && restB a true true false && a.not.isEmpty
  else if a.kind = 6 then belowB a.reg m.regs && restB a false true false && a.not.isEmpty
  else if a.kind = 7 then belowB a.reg m.regs && belowB a.frm m.regs && restB a false true true && a.not.isEmpty
  else false)
def validM (m : RM) : Bool := belowB m.regs 5 && belowB m.data 9 && belowB m.plain 9 && decide (1 ≤ m.states.length) && decide (m.states.length ≤ 64) && m.states.all fun r => decide (r.length ≤ 16) && r.all (arcB m)

def arcC (p : Value × RA) : List Value := [.int .i64 p.2.kind, .int .i64 p.2.ch, .int .i64 p.2.reg, .int .i64 p.2.frm, p.1, .int .i64 p.2.to]
def rowC (l : List (Value × RA)) : List Value := l.flatMap arcC
theorem rowC_len (l : List (Value × RA)) : (rowC l).length = l.length * 6 := by
  induction l with
  | nil => rfl
  | cons p r ih =>
    simp only [rowC, arcC, List.flatMap_cons, List.length_append, List.length_cons, List.length_nil] at ih ⊢
    omega
theorem rowC_get : ∀ {l : List (Value × RA)} {i : Nat} {p : Value × RA}, l[i]? = some p → ∀ j, j < 6 → (rowC l)[i * 6 + j]? = (arcC p)[j]?
  | [], i, p, h, j, hj => by simp at h
  | q :: r, 0, p, h, j, hj => by
    simp only [List.getElem?_cons_zero, Option.some.injEq] at h
    subst h
    rw [rowC, List.flatMap_cons, Nat.zero_mul, Nat.zero_add, List.getElem?_append_left (by simp [arcC]; omega)]
  | q :: r, i + 1, p, h, j, hj => by
    rw [List.getElem?_cons_succ] at h
    rw [rowC, List.flatMap_cons, List.getElem?_append_right (by simp [arcC]; omega), ← rowC_get h j hj]
    have e : (i + 1) * 6 + j - (arcC q).length = i * 6 + j := by simp [arcC]; omega
    rw [e]
    rfl
/-- A row of arcs that is only read. -/
def ArcsAt (w : World) (F : List Nat) (v : Value) (row : List RA) : Prop :=
  ∃ l : List (Value × RA), l.map (·.2) = row ∧ RowV w F v row.length 6 (rowC l) ∧ ∀ p ∈ l, RowV w F p.1 p.2.not.length 1 (ints p.2.not)
/-- The rows of all states. -/
def StatesAt (w : World) (F : List Nat) (v : Value) (st : List (List RA)) : Prop :=
  ∃ l : List (Value × List RA), l.map (·.2) = st ∧ RowV w F v st.length 1 (l.map (·.1)) ∧ ∀ p ∈ l, ArcsAt w F p.1 p.2
def machV (m : RM) (sv : Value) : Value := .agg #[.int .i64 m.regs, .int .i64 m.data, .int .i64 m.plain, sv]
section
variable {w w' : World} {F F' fp : List Nat} {v : Value} {row : List RA} {st : List (List RA)}
theorem ArcsAt.step (h : ArcsAt w F v row) (hf : Frm fp w w') (hn : ∀ k ∈ fp, k ∈ F ∨ w.heap.size ≤ k) (hF : ∀ k ∈ F', k ∈ F ∨ w.heap.size ≤ k) : ArcsAt w' F' v row := by
  obtain ⟨l, h1, h2, h3⟩ := h
  exact ⟨l, h1, h2.step hf hn hF, fun p hp => (h3 p hp).step hf hn hF⟩
theorem ArcsAt.nil (h : ArcsAt w F v row) (hf : Frm [] w w') : ArcsAt w' F v row := h.step hf (by simp) (fun _ hk => .inl hk)
theorem StatesAt.step (h : StatesAt w F v st) (hf : Frm fp w w') (hn : ∀ k ∈ fp, k ∈ F ∨ w.heap.size ≤ k) (hF : ∀ k ∈ F', k ∈ F ∨ w.heap.size ≤ k) : StatesAt w' F' v st := by
  obtain ⟨l, h1, h2, h3⟩ := h
  exact ⟨l, h1, h2.step hf hn hF, fun p hp => (h3 p hp).step hf hn hF⟩
theorem StatesAt.nil (h : StatesAt w F v st) (hf : Frm [] w w') : StatesAt w' F v st := h.step hf (by simp) (fun _ hk => .inl hk)
/-- Row i of the states. -/
theorem StatesAt.at_ (h : StatesAt w F v st) {i : Nat} {r : List RA} (hr : st[i]? = some r) : ∃ b o c a n cc, v = .slice (some ⟨b, o, none⟩) st.length c ∧ st.length ≤ c ∧ c ≤ maxLen ∧ b ∉ F ∧ w.cell? ⟨b, o + i, none⟩ = some (.slice a n cc) ∧ n = r.length ∧ ArcsAt w F (.slice a n cc) r := by
  obtain ⟨l, h1, h2, h3⟩ := h
  have hr2 : (l.map (·.2))[i]? = some r := by rw [h1]; exact hr
  rw [List.getElem?_map] at hr2
  cases hl : l[i]? with
  | none => rw [hl] at hr2; cases hr2
  | some p =>
    rw [hl] at hr2
    simp only [Option.map_some, Option.some.injEq] at hr2
    subst hr2
    have ha := h3 p (List.mem_of_getElem? hl)
    obtain ⟨l2, e2, ⟨_, a, cc, e3, _⟩, _⟩ := ha
    obtain ⟨_, va, c, ev, hc1, hc2, _, hcell⟩ := h2
    obtain ⟨b, o, rfl, hb, _, hc⟩ := hcell i p.1 (by rw [List.getElem?_map, hl]; rfl)
    rw [e3] at hc
    have ha := h3 p (List.mem_of_getElem? hl)
    rw [e3] at ha
    exact ⟨b, o, c, a, _, cc, ev, hc1, hc2, hb, hc, rfl, ha⟩
end

end Go.Proofs.Ytfndgiinniibfaa.Ind
