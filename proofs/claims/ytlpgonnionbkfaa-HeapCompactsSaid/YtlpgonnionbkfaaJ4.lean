/- A row of operations, as it comes in. -/
import Derived.Test.YtlpgonnionbkfaaJ5
import Derived.Test.YtlpgonnionbkfaaRows
import Derived.ProofKit
import Derived.OpenShut
import Derived.ChangeSame
import Derived.ReadAgain
import Derived.SizedLaws
import Derived.Deep.SlicePairs
namespace Go.Proofs.Ytlpgonnionbkfaa
open Go.RowKit Go.WideShapes Go.ChangeShapes Go.Deep

theorem cellsI : Try.prog.cellsOf 3 = 1 := by kernel_rfl
theorem cellsB : Try.prog.cellsOf 4 = 1 := by kernel_rfl
theorem cellsOp : Try.prog.cellsOf 52 = 6 := by kernel_rfl

section
variable {H : Type} {enc : TypeId × Value → H} {W : World}

theorem plain_of_cell {a : Addr} {i : Nat} {v : Value} (h : W.cell? (a.add i) = some v) (h0 : ∃ u, W.cell? (a.add 0) = some u) : ∃ b o, a = ⟨b, o, none⟩ ∧ b < W.heap.size ∧ W.cell? ⟨b, o + i, none⟩ = some v := by
  obtain ⟨b, o, sp⟩ := a
  obtain ⟨u, hu⟩ := h0
  have e0 : ((⟨b, o, sp⟩ : Addr).add 0) = ⟨b, o, sp⟩ := by simp [Addr.add]
  rw [e0] at hu
  have hsp : sp = none := World.cell?_spot hu
  subst hsp
  rw [add_plain] at h
  exact ⟨b, o, rfl, World.block_lt_of_cell? _ _ h, h⟩

set_option maxRecDepth 100000 in
theorem ops_open {base : Nat} {v : Value} {d : DataW H} {ps : List MemPlace} (hv : Value.okWide Try.prog W .any base 43 v) (h : DataW.Trod enc Try.prog W 0 (fun _ => true) true 43 v d ps) :
    ∃ a len cap, v = .slice a len cap ∧ len ≤ cap ∧ cap ≤ maxLen ∧ OpsAt W a len := by
  obtain ⟨a0, len, cap, rfl⟩ := okWide_slice Try.underlying43 hv
  obtain ⟨fuel, hf⟩ := h
  rcases open_slice Try.underlying43 hf with ⟨hcs, _⟩ | ⟨a, len', cap', m, n, D, Pl, hcs, hb, hl, hm, hmm, _, hx⟩
  · simp [Value.cells] at hcs
    obtain ⟨rfl, rfl, rfl⟩ := hcs
    exact ⟨none, 0, 0, rfl, Nat.le_refl _, Nat.zero_le _, fun i hi => by omega⟩
  · simp [Value.cells] at hcs
    obtain ⟨rfl, rfl, rfl⟩ := hcs
    have hlm : len ≤ m := by rw [hmm]; split <;> omega
    have each : ∀ i, i < m → ∃ (k x y c n : Int) (raw : Bool), W.cell? (a.add (i * 6)) = some (.int .i64 k) ∧ W.cell? (a.add (i * 6 + 1)) = some (.int .i64 x) ∧ W.cell? (a.add (i * 6 + 2)) = some (.int .i64 y) ∧ W.cell? (a.add (i * 6 + 3)) = some (.int .i64 c) ∧ W.cell? (a.add (i * 6 + 4)) = some (.int .i64 n) ∧ W.cell? (a.add (i * 6 + 5)) = some (.bool raw) := by
      intro i hi
      obtain ⟨cs', h1, h2⟩ := hx i hi
      rw [cellsOp] at h1
      obtain ⟨_, hlen, hcell⟩ := World.cells?_some h1
      obtain ⟨xs, k, hk, hxy, _, hxl, hfs⟩ := DataW.trod_struct Try.underlying52 h2
      match xs, hxl, cs', hlen with
      | [x0, x1, x2, x3, x4, x5], _, [v0, v1, v2, v3, v4, v5], _ =>
        have g0 := hfs 0 _ rfl
        have g1 := hfs 1 _ rfl
        have g2 := hfs 2 _ rfl
        have g3 := hfs 3 _ rfl
        have g4 := hfs 4 _ rfl
        have g5 := hfs 5 _ rfl
        simp [cellsI, cellsB] at g0 g1 g2 g3 g4 g5
        have e0 := hcell 0 (by omega)
        have e1 := hcell 1 (by omega)
        have e2 := hcell 2 (by omega)
        have e3 := hcell 3 (by omega)
        have e4 := hcell 4 (by omega)
        have e5 := hcell 5 (by omega)
        rw [add_add] at e0 e1 e2 e3 e4 e5
        obtain ⟨y0, q0, _⟩ := DataW.trod_int Try.underlying3 g0
        obtain ⟨y1, q1, _⟩ := DataW.trod_int Try.underlying3 g1
        obtain ⟨y2, q2, _⟩ := DataW.trod_int Try.underlying3 g2
        obtain ⟨y3, q3, _⟩ := DataW.trod_int Try.underlying3 g3
        obtain ⟨y4, q4, _⟩ := DataW.trod_int Try.underlying3 g4
        obtain ⟨y5, q5, _⟩ := DataW.trod_bool Try.underlying4 g5
        simp only [List.cons.injEq, and_true] at q0 q1 q2 q3 q4 q5
        subst q0 q1 q2 q3 q4 q5
        exact ⟨y0, y1, y2, y3, y4, y5, by simpa using e0, by simpa using e1, by simpa using e2, by simpa using e3, by simpa using e4, by simpa using e5⟩
    refine ⟨some a, len, cap, rfl, hl, hm, fun i hi => ?_⟩
    obtain ⟨k, x, y, c, n, raw, h0, h1, h2, h3, h4, h5⟩ := each i (by omega)
    obtain ⟨_, _, _, _, _, _, z0, _⟩ := each 0 (by omega)
    obtain ⟨b, o, rfl, hbl, hc⟩ := plain_of_cell h0 ⟨_, by simpa using z0⟩
    rw [add_plain] at h1 h2 h3 h4 h5
    exact ⟨b, o, k, x, y, c, n, raw, rfl, hbl, hc, by rw [Nat.add_assoc]; exact h1, by rw [Nat.add_assoc]; exact h2, by rw [Nat.add_assoc]; exact h3, by rw [Nat.add_assoc]; exact h4, by rw [Nat.add_assoc]; exact h5⟩

end

end Go.Proofs.Ytlpgonnionbkfaa
