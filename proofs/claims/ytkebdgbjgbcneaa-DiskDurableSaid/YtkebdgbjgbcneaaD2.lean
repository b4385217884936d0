/- Plain: a file is replaced completely or not at all. No program. -/
import Derived.Test.YtkebdgbjgbcneaaD1
namespace Go.Proofs.Ytkebdgbjgbcneaa
open Go.RowKit

section
variable {x y : List UInt8}
def nA : Nm := [97]
def nB : Nm := [98]
/-- Behind the first sync; a write fails when armed comes to 0. -/
def rp0 (x : List UInt8) (a : Nat) : DM := ⟨1000, [⟨x, x.length⟩], [(nB, 0)], [(nB, 0)], [], a, false, 2⟩
theorem rp_append (hx : x.length ≤ 20) : appendM (emptyM 1000) nB x = (0, ⟨1000, [⟨x, 0⟩], [(nB, 0)], [], [⟨1, nB, [], 0⟩], 0, false, 1⟩) := by
  have hf : fullM (emptyM 1000) nB x = false := by simp [fullM, emptyM, findD, usedD]; omega
  have hg : goodN nB = true := by decide
  rw [appendM, if_neg (by decide), if_neg (by rw [hg]; decide), if_neg (by rw [hf]; decide)]
  simp [writeM, emptyM, putM, findD, newM, addM, cutB, fileAt, withD, withoutD, insD, wrap64]
theorem rp_sync : syncM ⟨1000, [⟨x, 0⟩], [(nB, 0)], [], [⟨1, nB, [], 0⟩], 0, false, 1⟩ nB = (0, rp0 x 0) := by
  simp [syncM, missM, writeM, findD, sealM, fileAt, rp0, wrap64, goodN, nB]
theorem rp_fail (v : Nat) : failM (rp0 x 0) (1 + (v : Int)) = rp0 x (v + 1) := by
  simp [failM, rp0]
  omega
/-- Behind the append to the new file. -/
def rp1 (x y : List UInt8) (a : Nat) (off : Bool) : DM := ⟨1000, [⟨x, x.length⟩, ⟨cutB off y, 0⟩], [(nA, 1), (nB, 0)], [(nB, 0)], [⟨1, nA, [], 1⟩], a, off, 3⟩
theorem rp_append2 (hx : x.length ≤ 20) (hy : y.length ≤ 20) (v : Nat) : appendM (rp0 x (v + 1)) nA y = (if v = 0 then 25 else 0, rp1 x y v (decide (v = 0))) := by
  have hf : fullM (rp0 x (v + 1)) nA y = false := by simp [fullM, rp0, findD, usedD, fileAt, nA, nB]; omega
  have hg : goodN nA = true := by decide
  rw [appendM, if_neg (by simp [rp0]), if_neg (by rw [hg]; decide), if_neg (by rw [hf]; decide)]
  cases v <;> simp [writeM, rp0, putM, findD, newM, addM, fileAt, withD, withoutD, insD, wrap64, rp1, nA, nB, bytesBefore]
def rp2 (x y : List UInt8) (a : Nat) : DM := ⟨1000, [⟨x, x.length⟩, ⟨y, y.length⟩], [(nA, 1), (nB, 0)], [(nA, 1), (nB, 0)], [], a, false, 4⟩
theorem rp_sync2 (v : Nat) : syncM (rp1 x y (v + 1) false) nA = (if v = 0 then (25, { rp1 x y 0 true with files := [⟨x, x.length⟩, ⟨y, 0⟩], count := 4 }) else (0, rp2 x y v)) := by
  cases v <;> simp [syncM, missM, writeM, findD, sealM, fileAt, rp1, rp2, wrap64, goodN, nA, nB, cutB]
theorem rp_rename (v : Nat) : renameM (rp2 x y (v + 1)) nA nB = (if v = 0 then (25, { rp2 x y 0 with off := true, count := 5 }) else (0, ⟨1000, [⟨x, x.length⟩, ⟨y, y.length⟩], [(nB, 1)], [(nA, 1), (nB, 0)], [⟨2, nA, nB, 1⟩], v, false, 5⟩)) := by
  cases v <;> simp [renameM, missRM, writeM, findD, opM, doneD, withD, withoutD, insD, rp2, wrap64, goodN, nA, nB]
theorem rp_sync3 (v : Nat) : syncM ⟨1000, [⟨x, x.length⟩, ⟨y, y.length⟩], [(nB, 1)], [(nA, 1), (nB, 0)], [⟨2, nA, nB, 1⟩], v + 1, false, 5⟩ nB = (if v = 0 then (25, ⟨1000, [⟨x, x.length⟩, ⟨y, y.length⟩], [(nB, 1)], [(nA, 1), (nB, 0)], [⟨2, nA, nB, 1⟩], 0, true, 6⟩) else (0, ⟨1000, [⟨x, x.length⟩, ⟨y, y.length⟩], [(nB, 1)], [(nB, 1)], [], v, false, 6⟩)) := by
  cases v <;> simp [syncM, missM, writeM, findD, sealM, fileAt, wrap64, goodN, nB]
theorem mod_two (n : Nat) : n % 2 = 0 ∨ n % 2 = 1 := by omega
/-- A crash while the new file is not led to by the old name. -/
theorem rp_crash1 (z : List UInt8) (k : Nat) (a : Nat) (off : Bool) (c : Int) (keep : List Int) : readM (crashM ⟨1000, [⟨x, x.length⟩, ⟨z, k⟩], [(nA, 1), (nB, 0)], [(nB, 0)], [⟨1, nA, [], 1⟩], a, off, c⟩ keep) nB = (x, 0) := by
  rcases mod_two (pickM keep 0) with h | h
  · simp [readM, missM, crashM, crashD, h, crashF, fileAt, findD, goodN, nB]
  · by_cases hz : k < z.length
    · simp [readM, missM, crashM, crashD, h, crashF, fileAt, findD, goodN, doneD, withD, withoutD, insD, nA, nB, bytesBefore, hz]
    · simp [readM, missM, crashM, crashD, h, crashF, fileAt, findD, goodN, doneD, withD, withoutD, insD, nA, nB, bytesBefore, hz]
theorem rp_crash2 (a : Nat) (off : Bool) (c : Int) (keep : List Int) : readM (crashM ⟨1000, [⟨x, x.length⟩, ⟨y, y.length⟩], [(nA, 1), (nB, 0)], [(nA, 1), (nB, 0)], [], a, off, c⟩ keep) nB = (x, 0) := by
  simp [readM, missM, crashM, crashD, Nat.mod_one, crashF, fileAt, findD, goodN, nA, nB]
theorem rp_crash3 (a : Nat) (off : Bool) (c : Int) (keep : List Int) : readM (crashM ⟨1000, [⟨x, x.length⟩, ⟨y, y.length⟩], [(nB, 1)], [(nA, 1), (nB, 0)], [⟨2, nA, nB, 1⟩], a, off, c⟩ keep) nB = (x, 0) ∨ readM (crashM ⟨1000, [⟨x, x.length⟩, ⟨y, y.length⟩], [(nB, 1)], [(nA, 1), (nB, 0)], [⟨2, nA, nB, 1⟩], a, off, c⟩ keep) nB = (y, 0) := by
  rcases mod_two (pickM keep 0) with h | h
  · left
    simp [readM, missM, crashM, crashD, h, crashF, fileAt, findD, goodN, nA, nB]
  · right
    simp [readM, missM, crashM, crashD, h, crashF, fileAt, findD, goodN, doneD, withD, withoutD, insD, nA, nB]
theorem rp_crash4 (a : Nat) (off : Bool) (c : Int) (keep : List Int) : readM (crashM ⟨1000, [⟨x, x.length⟩, ⟨y, y.length⟩], [(nB, 1)], [(nB, 1)], [], a, off, c⟩ keep) nB = (y, 0) := by
  simp [readM, missM, crashM, crashD, Nat.mod_one, crashF, fileAt, findD, goodN, nB]
end

end Go.Proofs.Ytkebdgbjgbcneaa
