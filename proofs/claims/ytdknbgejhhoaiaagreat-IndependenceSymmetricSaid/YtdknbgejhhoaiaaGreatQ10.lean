/- Keys of maps that are structs: a kind with a channel, a place of an instance. -/
import Derived.Test.YtdknbgejhhoaiaaGreatQ08
import Derived.Test.YtdknbgejhhoaiaaGreatQ09
import Derived.Laws.StructEq
import Derived.ChangeKeysEq
namespace Go.Proofs.YtdknbgejhhoaiaaGreat.Ind
open Go.Shelf
open Go.RowKit

def useV (p : Int × Int) : Value := .agg #[.int .i64 p.1, .int .i64 p.2]
theorem keyUse : KeyS 154 useV := by
  refine ⟨⟨_, Tryz.underlying154⟩, fun w a b => ?_, fun w em a => ?_⟩
  · have u3 := Tryz.underlying3
    have hS : Tryz.prog.underlying 154 = some (.struct (Tryz.prog.fieldsOf 154)) := by kernel_rfl
    have hp : Tryz.prog.stoodInHeld 154 = false := by kernel_rfl
    simp only [useV, Op.equal, Op.maxDepth]
    rw [show (10000 : Nat) = 9999 + 1 from rfl, run_equalIn_agg w 9999 _ _ _ hS hp]
    simp only [Program.fieldsOf, Tryz.underlying154]
    go_simp
    obtain ⟨a1, a2⟩ := a
    obtain ⟨b1, b2⟩ := b
    by_cases h1 : a1 = b1 <;> by_cases h2 : a2 = b2 <;> simp [h1, h2]
  · have u3 := Tryz.underlying3
    have uu := Tryz.underlying154
    obtain ⟨n, hn⟩ : ∃ n, 10000 = n + 1 + 1 := ⟨9998, rfl⟩
    rw [hn]
    simp only [useV, Instr.checkKey, Sem.run_bind, run_underlying uu, Result.andThen_ok]
    go_simp

/-- A place, its registers one by one. -/
abbrev P5 := Int × Int × Int × Int × Int
def p5V (p : P5) : Value := .agg #[.int .i64 p.1, .int .i64 p.2.1, .int .i64 p.2.2.1, .int .i64 p.2.2.2.1, .int .i64 p.2.2.2.2]
theorem p5_eq (a b : P5) : decide (a = b) = (decide (a.1 = b.1) && (decide (a.2.1 = b.2.1) && (decide (a.2.2.1 = b.2.2.1) && (decide (a.2.2.2.1 = b.2.2.2.1) && decide (a.2.2.2.2 = b.2.2.2.2))))) := by
  rw [Bool.eq_iff_iff]
  simp [Prod.ext_iff]
theorem arr4_eq (w : World) (n : Nat) (a0 a1 a2 a3 b0 b1 b2 b3 : Int) :
    (Op.equalIn (n + 1 + 1) 65 (.agg #[.int .i64 a0, .int .i64 a1, .int .i64 a2, .int .i64 a3]) (.agg #[.int .i64 b0, .int .i64 b1, .int .i64 b2, .int .i64 b3])).run Tryz.prog w = .ok (decide (a0 = b0) && (decide (a1 = b1) && (decide (a2 = b2) && decide (a3 = b3)))) w := by
  obtain ⟨i0, hi, _⟩ := info_parts infoInt
  have hc : Tryz.prog.cellsOf 3 = 1 := by kernel_rfl
  have u3 := Tryz.underlying3
  rw [run_equalIn_array w (n + 1) _ _ Tryz.underlying65 hi, hc, show List.range 4 = [0, 1, 2, 3] from rfl]
  simp only [Op.eqItems]
  go_simp
  by_cases h0 : a0 = b0 <;> by_cases h1 : a1 = b1 <;> by_cases h2 : a2 = b2 <;> by_cases h3 : a3 = b3 <;> simp [h0, h1, h2, h3]
theorem key_place (t : TypeId) (ht : Tryz.prog.underlying t = some (.struct (Tryz.prog.fieldsOf t))) (hf : Tryz.prog.fieldsOf t = Tryz.prog.fieldsOf 67) (hp : Tryz.prog.stoodInHeld t = false) : KeyS t p5V := by
  refine ⟨⟨_, ht⟩, fun w a b => ?_, fun w em a => ?_⟩
  · have u3 := Tryz.underlying3
    have h4 := fun w n a0 a1 a2 a3 b0 b1 b2 b3 => arr4_eq w n a0 a1 a2 a3 b0 b1 b2 b3
    rw [p5_eq]
    obtain ⟨n, hn⟩ : ∃ n, 10000 = n + 1 + 1 + 1 := ⟨9997, rfl⟩
    simp only [p5V, Op.equal, Op.maxDepth]
    rw [hn, run_equalIn_agg w _ _ _ _ ht hp, hf]
    simp only [Program.fieldsOf, Tryz.underlying67]
    go_simp
    by_cases h0 : a.1 = b.1 <;> by_cases h1 : a.2.1 = b.2.1 <;> by_cases h2 : a.2.2.1 = b.2.2.1 <;> by_cases h3 : a.2.2.2.1 = b.2.2.2.1 <;> by_cases h5 : a.2.2.2.2 = b.2.2.2.2 <;> simp [h0, h1, h2, h3, h5]
  · have u3 := Tryz.underlying3
    obtain ⟨n, hn⟩ : ∃ n, 10000 = n + 1 + 1 + 1 := ⟨9997, rfl⟩
    rw [hn]
    rw [hf] at ht
    simp only [p5V, Instr.checkKey, Sem.run_bind, run_underlying ht, Result.andThen_ok]
    simp only [Program.fieldsOf, Tryz.underlying67]
    go_simp
    rw [show List.range' 0 4 = [0, 1, 2, 3] from rfl]
    go_simp

section
variable {α : Type} [DecidableEq α] {kt : TypeId} {ke : α → Value} {w : World} {ops : Array Oper} {rest : List Oper} {o : Oper} {a : Act} {Q : Exit → Act → World → Prop}
theorem wpl_klook (K : KeyS kt ke) (hg : o.guard = none) (m x : Operand) (mt : TypeId) (hop : o.op = Op.lookup mt m x true) {et : TypeId} (ht : Tryz.prog.underlying mt = some (.map kt et)) {z : Value} (hz : (zeroValue et).run Tryz.prog w = .ok z w) (b : Nat) (kv : List (α × Value)) (hm : a.eval m = .map (some b)) (hown : KM ke w b kv) (k : α) (hx : a.eval x = ke k)
    (hK : wpList Tryz.prog ops Q rest (a.put o.dst (.tuple #[(getA kv k).getD z, .bool (getA kv k).isSome])) w) : wpList Tryz.prog ops Q (o :: rest) a w := by
  refine wpList_plain hg fun K' hK' => ?_
  have hrun := hown.look K ht hz (k := k) true
  unfold Oper.wp
  simp [execOp, hop, hm, hx, hrun, Result.andThen]
  exact hK' _ _ hK
theorem wpl_kput (K : KeyS kt ke) (hg : o.guard = none) (m x v : Operand) (mt : TypeId) (hop : o.op = Op.mapUpdate mt m x v) {et : TypeId} (ht : Tryz.prog.underlying mt = some (.map kt et)) (b : Nat) (kv : List (α × Value)) (hm : a.eval m = .map (some b)) (hown : KM ke w b kv) (k : α) (hx : a.eval x = ke k) (u : Value) (hv : a.eval v = u) (hn : getA kv k = none)
    (hK : ∀ w', KM ke w' b (kv ++ [(k, u)]) → Frm [b] w w' → w'.heap.size = w.heap.size → wpList Tryz.prog ops Q rest (a.put o.dst undef) w') : wpList Tryz.prog ops Q (o :: rest) a w := by
  refine wpList_plain hg fun K' hK' => ?_
  obtain ⟨w', hrun, h1, h2, h3⟩ := hown.put K ht hn u
  unfold Oper.wp
  simp [execOp, hop, hm, hx, hv, hrun, Result.andThen]
  exact hK' _ _ (hK w' h1 h2 h3)
end
/-- An entry has come; none is left. -/
structure KStep {α : Type} (ke : α → Value) (w w' : World) (b r : Nat) (kv : List (α × Value)) (P9 : α × Value → Prop) (cnt : Nat) (p : α × Value) (cnt' : Nat) : Prop where
  mem : p ∈ kv
  rng : ∀ Q' : α × Value → Prop, (∀ q ∈ kv, P9 q → Q' q) → Q' p → KRng ke w' b r kv Q' cnt'
  km : KM ke w' b kv
  lt : cnt' < cnt
  frm : Frm [r] w w'
  size : w'.heap.size = w.heap.size
  ent : (Instr.entry (.pointer (some ⟨r, 0, none⟩))).run Tryz.prog w' = .ok (.tuple #[ke p.1, p.2]) w'
def KDone {α : Type} (kv : List (α × Value)) (P9 : α × Value → Prop) : Prop := ∀ p ∈ kv, P9 p
theorem wpl_knext2 {α : Type} {ke : α → Value} {w : World} {ops : Array Oper} {rest : List Oper} {o : Oper} {a : Act} {Q : Exit → Act → World → Prop} (hg : o.guard = none) (it : Operand) (hop : o.op = Op.next it false) (b r : Nat) (kv : List (α × Value)) (P9 : α × Value → Prop) (cnt : Nat) (hit : a.eval it = .pointer (some ⟨r, 0, none⟩)) (h : KRng ke w b r kv P9 cnt)
    (hDone : cnt = 0 → KDone kv P9 → wpList Tryz.prog ops Q rest (a.put o.dst (.tuple #[.bool false])) w)
    (hMore : ∀ (k : α) (v : Value) (w' : World) (cnt' : Nat), KStep ke w w' b r kv P9 cnt (k, v) cnt' → wpList Tryz.prog ops Q rest (a.put o.dst (.tuple #[.bool true, ke k, v])) w') :
    wpList Tryz.prog ops Q (o :: rest) a w :=
  wpl_knext hg it hop b r kv P9 cnt hit h hDone (fun p w' cnt' h1 h2 h3 h4 h5 h6 h7 => hMore p.1 p.2 w' cnt' ⟨h1, h2, h3, h4, h5, h6, h7⟩)
theorem getA_none {α : Type} [DecidableEq α] {kv : List (α × Value)} {k : α} : getA kv k = none ↔ ∀ p ∈ kv, p.1 ≠ k := by
  unfold getA
  rw [Option.map_eq_none_iff, List.find?_eq_none]
  simp
theorem getA_some {α : Type} [DecidableEq α] {kv : List (α × Value)} {k : α} {v : Value} (h : getA kv k = some v) : (k, v) ∈ kv := by
  unfold getA at h
  cases hf : kv.find? fun p => decide (p.1 = k) with
  | none => rw [hf] at h; cases h
  | some p =>
    rw [hf] at h
    have h1 := List.mem_of_find?_eq_some hf
    have h2 := List.find?_some hf
    simp at h h2
    rw [← h, ← h2]
    exact h1

end Go.Proofs.YtdknbgejhhoaiaaGreat.Ind
