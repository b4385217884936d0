/- Contract of validArc. -/
import Derived.Test.YtfndgiinniibfaaK2
namespace Go.Proofs.Ytfndgiinniibfaa.Ind
open Go.Shelf
open Go.RowKit

def unusedA (a : RA) : RA :=
  if a.kind = 3 then ⟨a.kind, a.ch, 0, 0, [], a.to⟩
  else if a.kind = 4 then ⟨a.kind, a.ch, a.reg, 0, a.not, a.to⟩
  else if a.kind = 5 then ⟨a.kind, a.ch, a.reg, 0, [], a.to⟩
  else if a.kind = 6 then ⟨a.kind, 0, a.reg, 0, [], a.to⟩
  else if a.kind = 7 then ⟨a.kind, 0, a.reg, a.frm, [], a.to⟩
  else ⟨a.kind, 0, 0, 0, [], a.to⟩
def okB (m : RM) (a : RA) : Bool :=
  if a.kind = 1 ∨ a.kind = 2 then true
  else if a.kind = 3 then belowB a.ch m.plain
  else if a.kind = 4 then belowB a.ch m.data && (a.reg == -1 || belowB a.reg m.regs) && notB m.regs a.not
  else if a.kind = 5 then belowB a.ch m.data && belowB a.reg m.regs
  else if a.kind = 6 then belowB a.reg m.regs
  else if a.kind = 7 then belowB a.reg m.regs && belowB a.frm m.regs
  else false
theorem arcB_ok (m : RM) (a : RA) : arcB m a = (okB m a && sameB a (unusedA a) && belowB a.to m.states.length) := by
  obtain ⟨kind, ch, reg, frm, not, tgt⟩ := a
  rw [Bool.eq_iff_iff]
  simp only [arcB, okB, Bool.and_eq_true, sameB_iff, unusedA, restB]
  by_cases h12 : kind = 1 ∨ kind = 2
  · have h3 : kind ≠ 3 := by omega
    have h4 : kind ≠ 4 := by omega
    have h5 : kind ≠ 5 := by omega
    have h6 : kind ≠ 6 := by omega
    have h7 : kind ≠ 7 := by omega
    simp only [h12, h3, h4, h5, h6, h7, if_true, if_false]
    simp
    grind
  · by_cases h3 : kind = 3
    · subst h3; simp; grind
    · by_cases h4 : kind = 4
      · subst h4; simp; grind
      · by_cases h5 : kind = 5
        · subst h5; simp; grind
        · by_cases h6 : kind = 6
          · subst h6; simp; grind
          · by_cases h7 : kind = 7
            · subst h7; simp; grind
            · simp only [h12, h3, h4, h5, h6, h7, if_false]; simp

/-- A machine's value in a box: what the box shows. -/
theorem box_mach (w : World) (m : RM) (sv : Value) (t : TypeId) : RowAt (w.alloc (.cells #[.int .i64 m.regs, .int .i64 m.data, .int .i64 m.plain, sv] t)) w.heap.size t [.int .i64 m.regs, .int .i64 m.data, .int .i64 m.plain, sv] := RowAt.made w _ _ _ rfl

theorem notAt_nil (w : World) (F : List Nat) (a : RA) (h : a.not = []) : NotAt w F (.slice none 0 0) a := by
  unfold NotAt
  rw [h]
  exact RowV.nil0 w F 1

end Go.Proofs.Ytfndgiinniibfaa.Ind
