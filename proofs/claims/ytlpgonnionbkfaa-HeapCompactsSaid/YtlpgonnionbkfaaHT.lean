/- A row of integers that is rewritten from its front; append of one cell. -/
import Derived.Test.YtlpgonnionbkfaaHS
import Derived.Test.YtlpgonnionbkfaaHP
namespace Go.Proofs.Ytlpgonnionbkfaa
open Go.RowKit

def parL (f : Int → Int) (j : Nat) (xs : List Int) : List Int := (xs.take j).map f ++ xs.drop j
theorem parL_eq (f : Int → Int) (j : Nat) (xs : List Int) : parL f j xs = (parR f j ⟨0, 0, xs⟩).refs := rfl
theorem parL_zero (f : Int → Int) (xs : List Int) : parL f 0 xs = xs := by simp [parL]
theorem parL_len (f : Int → Int) (j : Nat) (xs : List Int) : (parL f j xs).length = xs.length := by rw [parL_eq, parR_len]
theorem parL_at {f : Int → Int} {j : Nat} {xs : List Int} {r : Int} (h : xs[j]? = some r) : (parL f j xs)[j]? = some r := parR_at (c := ⟨0, 0, xs⟩) h
theorem parL_put {f : Int → Int} {j : Nat} {xs : List Int} {r : Int} (h : xs[j]? = some r) : (parL f j xs).set j (f r) = parL f (j + 1) xs := congrArg HC.refs (parR_put (f := f) (c := ⟨0, 0, xs⟩) h)
theorem parL_all {f : Int → Int} {j : Nat} {xs : List Int} (h : xs.length ≤ j) : parL f j xs = xs.map f := by simp [parL, List.take_of_length_le h, List.drop_eq_nil_of_le h]
def outF (cs : List HC) (r : Int) : Int := if inL cs r = true then folI cs r else -1
theorem outs_eq (cs : List HC) (rs : List Int) : outs cs rs = rs.map (outF cs) := rfl

theorem flat_snoc : ∀ (cs : List HC) (vs : List Value), vs.length = cs.length → ∀ (c : HC) (v : Value), flat (cs ++ [c]) (vs ++ [v]) = flat cs vs ++ [.int .i64 c.kind, .int .i64 c.num, v]
  | [], [], _, _, _ => rfl
  | d :: cs, u :: vs, h, c, v => by
    have := flat_snoc cs vs (by simpa using h) c v
    simp [flat, this]
  | [], _ :: _, h, _, _ => by simp at h
  | _ :: _, [], h, _, _ => by simp at h

/-- append of one cell. -/
theorem app_cell {w : World} {ops : Array Oper} {rest : List Oper} {o : Oper} {a : Act} {Q : Exit → Act → World → Prop} (hgd : o.guard = none) (s x : Operand)
    (ho : o.op = .call { callee := .builtin .append, args := #[s, x], argTypes := #[58, 58] })
    (B n : Nat) (v : Value) (xs : List Value) (hs : a.eval s = v) (hown : w.ownsRow B 32 3 v n xs) (ad : Addr) (c : Nat) (k m : Int) (a3 : Option Addr) (n3 c3 : Nat) (hx : a.eval x = .slice (some ad) 1 c)
    (hy0 : w.cell? (ad.add 0) = some (.int .i64 k)) (hy1 : w.cell? (ad.add 1) = some (.int .i64 m)) (hy2 : w.cell? (ad.add 2) = some (.slice a3 n3 c3)) (hb : n ≤ 1000000) (hB : B ≤ w.heap.size)
    (h : ∀ a' cp w', w'.ownsRow B 32 3 (.slice a' (n + 1) cp) (n + 1) (xs ++ [.int .i64 k, .int .i64 m, .slice a3 n3 c3]) → Frm v.ownBlock.toList w w' → (∀ k, (Value.slice a' (n + 1) cp).ownBlock = some k → v.ownBlock = some k ∨ k = w.heap.size) → wpList Try.prog ops Q rest (a.put o.dst (.slice a' (n + 1) cp)) w') : wpList Try.prog ops Q (o :: rest) a w := by
  obtain ⟨i0, hi, hz0, hz1, hz2⟩ := info_parts Try.info32
  refine Go.wpList_append_own_at w hgd s x 58 ho B 32 i0 _ 3 40 Try.underlying58 hi hz0 hz1 hz2 rfl (by decide) v n xs hs hown ad 1 c [.int .i64 k, .int .i64 m, .slice a3 n3 c3] hx rfl (fun j y hj => ?_) (fun y hy => ?_) (by unfold maxLen; omega) (by omega) hB ?_
  · match j, hj with
    | 0, hj => simp at hj; rw [← hj]; exact hy0
    | 1, hj => simp at hj; rw [← hj]; exact hy1
    | 2, hj => simp at hj; rw [← hj]; exact hy2
    | j + 3, hj => simp at hj
  · simp only [List.mem_cons, List.not_mem_nil, or_false] at hy
    rcases hy with rfl | rfl | rfl <;> rfl
  · intro v' w' hown' hgr _ hloc
    obtain ⟨a', cp, rfl, _⟩ := owns_shape (owns_base hown')
    refine h a' cp w' hown' ((Frm.refl _ _).grown hgr (fun k hk => .inl (by simp [hk]))) (fun k hk => ?_)
    rcases hloc with h9 | h9
    · exact .inl (by rw [← h9]; exact hk)
    · rw [h9] at hk
      exact .inr (by simpa using hk.symm)

/-- What the map of new numbers answers. -/
def MapK (KL : List Nat) (j : Nat) (f : Int → Int) : Prop := f (-1) = -1 ∧ ∀ (i v : Nat), i < j → KL[i]? = some v → f (v : Int) = (i : Int)
theorem MapK.start (KL : List Nat) : MapK KL 0 (updF (fun _ => 0) (-1) (-1)) := ⟨updF_same _ _ _, fun i v h => by omega⟩
theorem nodup_get {KL : List Nat} (hn : KL.Nodup) {i j v : Nat} (hi : KL[i]? = some v) (hj : KL[j]? = some v) : i = j := by
  have h1 := List.getElem?_eq_some_iff.1 hi
  have h2 := List.getElem?_eq_some_iff.1 hj
  obtain ⟨h1, e1⟩ := h1
  obtain ⟨h2, e2⟩ := h2
  have h3 := List.pairwise_iff_getElem.1 hn
  rcases Nat.lt_trichotomy i j with h | h | h
  · exact absurd (e1.trans e2.symm) (h3 i j h1 h2 h)
  · exact h
  · exact absurd (e2.trans e1.symm) (h3 j i h2 h1 h)
theorem MapK.next {KL : List Nat} {j : Nat} {f : Int → Int} (h : MapK KL j f) (hn : KL.Nodup) {v : Nat} (hv : KL[j]? = some v) : MapK KL (j + 1) (updF f (v : Int) (j : Int)) := by
  refine ⟨by rw [updF_other _ _ (by omega)]; exact h.1, fun i u hi hu => ?_⟩
  by_cases e : i = j
  · subst e
    rw [hu] at hv
    cases hv
    exact updF_same _ _ _
  · rw [updF_other _ _ (fun h9 => e (nodup_get hn hu (by rw [hv, show u = v by omega])))]
    exact h.2 i u (by omega) hu
theorem MapK.idx {KL : List Nat} {j : Nat} {f : Int → Int} (h : MapK KL j f) (hj : KL.length ≤ j) {v : Nat} (hv : v ∈ KL) : f (v : Int) = ((KL.idxOf v : Nat) : Int) := by
  have h1 := List.idxOf_lt_length_iff.2 hv
  exact h.2 _ _ (by omega) (by rw [List.getElem?_eq_getElem h1, List.getElem_idxOf])
theorem flat_take {cs : List HC} {vs : List Value} {KL : List Nat} {j v : Nat} (hv : KL[j]? = some v) : flat ((KL.take (j + 1)).map (cellAt cs)) ((KL.take (j + 1)).map (vAt vs)) = flat ((KL.take j).map (cellAt cs)) ((KL.take j).map (vAt vs)) ++ [.int .i64 (cellAt cs v).kind, .int .i64 (cellAt cs v).num, vAt vs v] := by
  rw [List.take_add_one, hv, Option.toList_some, List.map_append, List.map_append]
  exact flat_snoc _ _ (by simp) _ _

end Go.Proofs.Ytlpgonnionbkfaa
