/- Operations in a row. -/
import Derived.Test.YtlpgonnionbkfaaLib
namespace Go.Proofs.Ytlpgonnionbkfaa
open Go.RowKit

def OpsAt (w : World) (a : Option Addr) (len : Nat) : Prop := ∀ i, i < len → ∃ (b o : Nat) (k x y c n : Int) (raw : Bool), a = some ⟨b, o, none⟩ ∧ b < w.heap.size ∧
  w.cell? ⟨b, o + i * 6, none⟩ = some (.int .i64 k) ∧ w.cell? ⟨b, o + i * 6 + 1, none⟩ = some (.int .i64 x) ∧ w.cell? ⟨b, o + i * 6 + 2, none⟩ = some (.int .i64 y) ∧
  w.cell? ⟨b, o + i * 6 + 3, none⟩ = some (.int .i64 c) ∧ w.cell? ⟨b, o + i * 6 + 4, none⟩ = some (.int .i64 n) ∧ w.cell? ⟨b, o + i * 6 + 5, none⟩ = some (.bool raw)
theorem OpsAt.frm {w w' : World} {a : Option Addr} {len : Nat} (h : OpsAt w a len) (hf : Frm [] w w') : OpsAt w' a len := fun i hi => by
  obtain ⟨b, o, k, x, y, c, n, raw, e, hb, h0, h1, h2, h3, h4, h5⟩ := h i hi
  have := hf.size
  exact ⟨b, o, k, x, y, c, n, raw, e, by omega, hf.cell h0 (by simp), hf.cell h1 (by simp), hf.cell h2 (by simp), hf.cell h3 (by simp), hf.cell h4 (by simp), hf.cell h5 (by simp)⟩

end Go.Proofs.Ytlpgonnionbkfaa
