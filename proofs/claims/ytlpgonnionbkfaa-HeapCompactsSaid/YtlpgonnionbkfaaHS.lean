/- A map from integers to integers that the call owns, as a function. -/
import Derived.Test.YtlpgonnionbkfaaHL
import Derived.Maps.OwnOps
import Derived.Maps.Views
namespace Go.Proofs.Ytlpgonnionbkfaa
open Go.RowKit Go.Maps

theorem keyed_i : Keyed Try.prog 3 := int_keyed Try.underlying3
theorem zero_i (w : World) : (zeroValue 3).run Try.prog w = .ok (.int .i64 0) w := by rfl
def fit64 (x : Int) : Prop := -9223372036854775808 ≤ x ∧ x ≤ 9223372036854775807
theorem wf64 {x : Int} (h : fit64 x) : (Lit.int .i64 x).wf = true := WalkArith.wf_i64 (by unfold fit64 at h; omega)
def updF (f : Int → Int) (x v : Int) : Int → Int := fun y => if y = x then v else f y
theorem updF_same (f : Int → Int) (x v : Int) : updF f x v x = v := by simp [updF]
theorem updF_other (f : Int → Int) {x y : Int} (v : Int) (h : y ≠ x) : updF f x v y = f y := by simp [updF, h]

/-- Block b is a map of at most n entries that answers f, at numbers of a machine word. -/
def MapI (w : World) (b n : Nat) (f : Int → Int) : Prop :=
  ∃ D : DataW Unit, w.ownsMap Try.prog 3 (plainElem Try.prog 3) b n D ∧ IsMap D ∧ ∀ x, fit64 x → D.atKey (.int .i64 x) (.lit (.int .i64 0)) = .lit (.int .i64 (f x))
theorem MapI.made (w : World) : MapI (w.alloc (.map #[] 0)) w.heap.size 0 (fun _ => 0) := ⟨_, World.ownsMap_made w _ _ _, isMap_empty, fun _x _ => rfl⟩
theorem MapI.lt {w : World} {b n : Nat} {f : Int → Int} (h : MapI w b n f) : b < w.heap.size := by
  obtain ⟨D, h1, _⟩ := h
  exact h1.lt
theorem MapI.block {w w' : World} {b n : Nat} {f : Int → Int} (h : MapI w b n f) (hb : w'.heap[b]? = w.heap[b]?) : MapI w' b n f := by
  obtain ⟨D, ⟨es, clock, h1, h2⟩, h3⟩ := h
  exact ⟨D, ⟨es, clock, by rw [hb]; exact h1, h2⟩, h3⟩
theorem MapI.frm {w w' : World} {b n : Nat} {f : Int → Int} {fp : List Nat} (h : MapI w b n f) (hf : Frm fp w w') (hn : b ∉ fp) : MapI w' b n f := h.block (hf.block b h.lt hn)
theorem MapI.ne {w : World} {b n B e size m g c : Nat} {f : Int → Int} {xs : List Value} (h : MapI w b n f) (hr : w.ownsRow B e size (.slice (some ⟨g, 0, none⟩) m c) m xs) : g ≠ b := by
  obtain ⟨D, ⟨es, clock, h1, h2⟩, h3⟩ := h
  obtain ⟨cur, hg, _⟩ := own_rowg2 hr
  intro e
  subst e
  rw [hg] at h1
  cases h1
theorem MapI.nb {w : World} {b n B e size m c : Nat} {a : Option Addr} {f : Int → Int} {xs : List Value} (h : MapI w b n f) (hr : w.ownsRow B e size (.slice a m c) m xs) : ∀ k, (Value.slice a m c).ownBlock = some k → k ≠ b := fun k hk => by
  rcases hr.2 with ⟨h0, _⟩ | ⟨g, cap, cur, h0, _⟩
  · rw [h0] at hk; simp [Value.ownBlock] at hk
  · obtain ⟨rfl, rfl⟩ : a = some ⟨g, 0, none⟩ ∧ c = cap := by simpa using h0
    obtain rfl : g = k := by simpa [Value.ownBlock] using hk
    exact h.ne hr

section
variable {w : World} {ops : Array Oper} {rest : List Oper} {o : Oper} {a : Act} {Q : Exit → Act → World → Prop}
theorem wpl_map_put (hg : o.guard = none) (m x v : Operand) (hop : o.op = Op.mapUpdate 71 m x v) (b n : Nat) (f : Int → Int) (hm : a.eval m = .map (some b)) (hown : MapI w b n f) (hn : n < maxLen) (key val : Int) (hx : a.eval x = .int .i64 key) (hv : a.eval v = .int .i64 val) (hk : fit64 key) (hval : fit64 val)
    (hK : ∀ w', MapI w' b (n + 1) (updF f key val) → Frm [b] w w' → wpList Try.prog ops Q rest (a.put o.dst undef) w') : wpList Try.prog ops Q (o :: rest) a w := by
  obtain ⟨D, hD, hi, hat⟩ := hown
  refine wpList_mapUpdate_own w hg m x v 71 hop 3 3 keyed_i Try.underlying71 _ b n D hm hD hn _ _ _ hx hv (keyOf_int_mk Try.underlying3 (wf64 hk)) _ [] (plainElem_int Try.underlying3 (wf64 hval)) ?_
  intro w' h1 h2
  refine hK w' ⟨_, h1, hi.put _ _, fun y hy => ?_⟩ ((Frm.refl [b] w).grown h2 (fun k hk => .inl (by simpa using hk.symm)))
  by_cases e : y = key
  · subst e
    rw [updF_same, atKey_put_same hi (by trivial)]
  · rw [updF_other _ _ e, atKey_put_other (by simpa using e), hat y hy]
theorem wpl_map_ins (hg : o.guard = none) (m x v : Operand) (hop : o.op = Op.insert 71 m x v) (b n : Nat) (f : Int → Int) (hm : a.eval m = .map (some b)) (hown : MapI w b n f) (hn : n < maxLen) (key val : Int) (hx : a.eval x = .int .i64 key) (hv : a.eval v = .int .i64 val) (hk : fit64 key) (hval : fit64 val)
    (hK : ∀ w', MapI w' b (n + 1) (updF f key val) → Frm [b] w w' → wpList Try.prog ops Q rest (a.put o.dst undef) w') : wpList Try.prog ops Q (o :: rest) a w := by
  obtain ⟨D, hD, hi, hat⟩ := hown
  refine wpList_plain hg fun K' hK' => ?_
  obtain ⟨w', hrun, h1, h2⟩ := hD.update keyed_i Try.underlying71 hn (keyOf_int_mk Try.underlying3 (wf64 hk)) (plainElem_int Try.underlying3 (wf64 hval))
  unfold Oper.wp
  simp [execOp, hop, hm, hx, hv, hrun, Result.andThen]
  refine hK' _ _ (hK w' ⟨_, h1, hi.put _ _, fun y hy => ?_⟩ ((Frm.refl [b] w).grown h2 (fun k hk => .inl (by simpa using hk.symm))))
  by_cases e : y = key
  · subst e
    rw [updF_same, atKey_put_same hi (by trivial)]
  · rw [updF_other _ _ e, atKey_put_other (by simpa using e), hat y hy]
theorem MapI.look {b n : Nat} {f : Int → Int} (hown : MapI w b n f) (key : Int) (hk : fit64 key) : (Instr.lookup 71 (.map (some b)) (.int .i64 key) false).run Try.prog w = .ok (.int .i64 (f key)) w := by
  obtain ⟨D, hD, hi, hat⟩ := hown
  obtain ⟨c, hrun, h1, _⟩ := hD.lookup_int keyed_i Try.underlying71 Try.underlying3 (zero_i w) (keyOf_int_mk Try.underlying3 (wf64 hk))
  rw [hat key hk] at h1
  simp only [DataW.lit.injEq, Lit.int.injEq, true_and] at h1
  rw [hrun, h1]
end

end Go.Proofs.Ytlpgonnionbkfaa
