/- Rows of paths in memory; appends to them in drawn regions. -/
import Derived.Test.YtknfdpkfomlckaaCA
import Derived.Test.YtknfdpkfomlckaaAG
import Derived.Test.YtknfdpkfomlckaaY6
namespace Go.Proofs.Ytknfdpkfomlckaa
open Go.RowKit

theorem own_ty {w : World} {B1 B2 e1 e2 s1 s2 n1 n2 : Nat} {v1 v2 : Value} {x1 x2 : List Value} (h1 : w.ownsRow B1 e1 s1 v1 n1 x1) (h2 : w.ownsRow B2 e2 s2 v2 n2 x2) {k : Nat} (hk1 : v1.ownBlock = some k) (hk2 : v2.ownBlock = some k) : e1 = e2 := by
  rcases h1.2 with ⟨rfl, _⟩ | ⟨g, cap, cur, rfl, _, hg, _⟩
  · simp [Value.ownBlock] at hk1
  · rcases h2.2 with ⟨rfl, _⟩ | ⟨g', cap', cur', rfl, _, hg', _⟩
    · simp [Value.ownBlock] at hk2
    · simp only [Value.ownBlock, Option.some.injEq] at hk1 hk2
      subst hk1 hk2
      rw [hg] at hg'
      cases hg'
      rfl

/-- A row of paths: each a row of integers. -/
structure Ps (B : Nat) (w : World) (a : Option Addr) (c : Nat) (X : List (List Nat)) (xs : List Value) : Prop where
  out : w.ownsRow B 22 1 (.slice a X.length c) X.length xs
  row : ∀ (i : Nat) (q : List Nat), X[i]? = some q → ∃ b cp, xs[i]? = some (.slice b q.length cp) ∧ w.ownsRow 0 3 1 (.slice b q.length cp) q.length (ints (natI q))
theorem Ps.frm {B : Nat} {w w' : World} {a : Option Addr} {c : Nat} {X : List (List Nat)} {xs : List Value} (h : Ps B w a c X xs) (hf : Frm [] w w') : Ps B w' a c X xs :=
  ⟨ownsB_frm h.out hf (by simp), fun i q hi => by
    obtain ⟨b, cp, h1, h2⟩ := h.row i q hi
    exact ⟨b, cp, h1, ownsB_frm h2 hf (by simp)⟩⟩
theorem Ps.mono {B C : Nat} {w : World} {a : Option Addr} {c : Nat} {X : List (List Nat)} {xs : List Value} (h : Ps B w a c X xs) (hc : C ≤ B) : Ps C w a c X xs := ⟨ownsB_mono h.out hc, h.row⟩
theorem Ps.nil (B : Nat) (w : World) : Ps B w none 0 [] [] := ⟨World.ownsRow_nil _ _ _ _, fun i q h => by simp at h⟩
theorem Ps.len {B : Nat} {w : World} {a : Option Addr} {c : Nat} {X : List (List Nat)} {xs : List Value} (h : Ps B w a c X xs) : xs.length = X.length := by have := h.out.1; omega
theorem Ps.push {B : Nat} {w w' : World} {a : Option Addr} {c : Nat} {X : List (List Nat)} {xs : List Value} (h : Ps B w a c X xs) {b : Option Addr} {cp g c' : Nat} {q : List Nat} (hq : w.ownsRow 0 3 1 (.slice b q.length cp) q.length (ints (natI q)))
    (ho : w'.ownsRow B 22 1 (.slice (some ⟨g, 0, none⟩) (X.length + 1) c') (X.length + 1) (xs ++ [.slice b q.length cp])) (hf : Frm (Value.slice a X.length c).ownBlock.toList w w') : Ps B w' (some ⟨g, 0, none⟩) c' (X ++ [q]) (xs ++ [.slice b q.length cp]) := by
  have key : ∀ {b cp n : _} {ys : List Value}, w.ownsRow 0 3 1 (.slice b n cp) n ys → w'.ownsRow 0 3 1 (.slice b n cp) n ys := fun {b cp n ys} h1 => ownsB_frm h1 hf (fun k hk hm => by
    simp only [Option.mem_toList] at hm
    have := own_ty h1 h.out hk hm
    exact absurd this (by decide))
  refine ⟨by rw [List.length_append]; exact ho, fun i r hi => ?_⟩
  rcases Nat.lt_or_ge i X.length with hl | hl
  · rw [List.getElem?_append_left hl] at hi
    obtain ⟨b', cp', h1, h2⟩ := h.row i r hi
    exact ⟨b', cp', by rw [List.getElem?_append_left (by rw [h.len]; exact hl)]; exact h1, key h2⟩
  · rw [List.getElem?_append_right hl] at hi
    obtain ⟨h0, rfl⟩ : i - X.length = 0 ∧ q = r := by
      cases hz : i - X.length with
      | zero => rw [hz] at hi; simpa using hi
      | succ k => rw [hz] at hi; simp at hi
    exact ⟨b, cp, by rw [List.getElem?_append_right (by rw [h.len]; exact hl), h.len, h0]; rfl, key hq⟩
/-- What a read of row i finds. -/
theorem Ps.at {B : Nat} {w : World} {a : Option Addr} {c : Nat} {X : List (List Nat)} {xs : List Value} (h : Ps B w a c X xs) {i : Nat} {q : List Nat} (hi : X[i]? = some q) (hq : 0 < q.length) : ∃ g gq cq, a = some ⟨g, 0, none⟩ ∧ w.cell? ⟨g, i, none⟩ = some (.slice (some ⟨gq, 0, none⟩) q.length cq) ∧ w.ownsRow 0 3 1 (.slice (some ⟨gq, 0, none⟩) q.length cq) q.length (ints (natI q)) ∧ w.cell? ⟨gq, q.length - 1, none⟩ = some (.int .i64 (lastN q : Int)) := by
  have hl : i < X.length := (List.getElem?_eq_some_iff.1 hi).1
  obtain ⟨g, c', he, _, _, hrow⟩ := owns_some (ownsB_mono h.out (Nat.zero_le _)) (show 0 < X.length by omega)
  obtain ⟨rfl, rfl⟩ : a = some ⟨g, 0, none⟩ ∧ c = c' := by simpa using he
  obtain ⟨b, cp, h1, h2⟩ := h.row i q hi
  obtain ⟨gq, cq, he2, _, _, hrow2⟩ := owns_some h2 hq
  obtain ⟨rfl, rfl⟩ : b = some ⟨gq, 0, none⟩ ∧ cp = cq := by simpa using he2
  refine ⟨g, gq, cp, rfl, hrow.cell h1, h2, hrow2.cell (ints_get (natI_get ?_))⟩
  rw [lastN, List.getLastD_eq_getLast?, List.getLast?_eq_getElem?]
  obtain ⟨u, hu⟩ : ∃ u, q[q.length - 1]? = some u := ⟨_, List.getElem?_eq_getElem (by omega)⟩
  rw [hu]
  rfl

/-- append of all of a row of integers to an empty one, as a step of a drawn region. -/
theorem step_app_all {w : World} {ops : Array Oper} {o : Oper} {a : Act} {K : Act → World → Prop} {Q : Exit → Act → World → Prop} {E : Prop} (hgd : o.guard = none) (s x : Operand)
    (ho : o.op = .call { callee := .builtin .append, args := #[s, x], argTypes := #[22, 22] })
    (B m gq cq g0 : Nat) (xs : List Int) (hs : a.eval s = .slice (some ⟨g0, 0, none⟩) 0 0) (hown : w.ownsRow B 3 1 (.slice (some ⟨g0, 0, none⟩) 0 0) 0 []) (hx : a.eval x = .slice (some ⟨gq, 0, none⟩) m cq)
    (hr : w.ownsRow 0 3 1 (.slice (some ⟨gq, 0, none⟩) m cq) m (ints xs)) (h0 : 0 < m) (hb : m ≤ 1000000) (hB : B ≤ w.heap.size) (H : Nat) (hH : w.heap.size = H)
    (h : ∀ g cp w', w'.ownsRow B 3 1 (.slice (some ⟨g, 0, none⟩) m cp) m (ints xs) → Frm [g0] w w' → K (a.put o.dst (.slice (some ⟨g, 0, none⟩) m cp)) w') :
    if Region.wanted o (yielded ops a.tmps) = true then Oper.wp Try.prog o a w K Q else E := by
  obtain ⟨i0, hi, hz0, hz1, hz2⟩ := info_parts infoInt
  have hl : xs.length = m := by have := hr.1; rw [ints_len] at this; omega
  refine step_append_lies w hgd s x 22 ho B 3 i0 (.int .i64 0) 1 8 Try.underlying22 hi hz0 hz1 hz2 rfl (by decide) _ 0 [] hs hown ⟨gq, 0, none⟩ m cq (ints xs) hx (by rw [ints_len]; omega) ?_ ?_ h0 (by unfold maxLen; omega) (by omega) hB H hH ?_
  · intro j u hj
    have := (own_rowg2 hr).cell hj
    rw [Addr.add_lit, Nat.zero_add]
    exact this
  · intro u hu
    rw [ints] at hu
    obtain ⟨y, _, rfl⟩ := List.mem_map.1 hu
    rfl
  · intro g cp w' hown' hgr _ _
    rw [Nat.zero_add] at hown' ⊢
    exact h g cp w' (by simpa using hown') ((Frm.refl _ _).grown hgr (fun k hk => .inl (by simpa [Value.ownBlock] using hk.symm)))

/-- append of one path to a row of paths, as a step of a drawn region. -/
theorem step_app_ps {w : World} {ops : Array Oper} {o : Oper} {a : Act} {K : Act → World → Prop} {Q : Exit → Act → World → Prop} {E : Prop} (hgd : o.guard = none) (s x : Operand)
    (ho : o.op = .call { callee := .builtin .append, args := #[s, x], argTypes := #[65, 65] })
    (B n : Nat) (v : Value) (xs : List Value) (hs : a.eval s = v) (hown : w.ownsRow B 22 1 v n xs) (ad : Addr) (c : Nat) (b : Option Addr) (m cp0 : Nat) (hx : a.eval x = .slice (some ad) 1 c)
    (hnews : w.cell? (ad.add 0) = some (.slice b m cp0)) (hb : n + 1 ≤ 100000000000) (hB : B ≤ w.heap.size) (H : Nat) (hH : w.heap.size = H)
    (h : ∀ g cp w', w'.ownsRow B 22 1 (.slice (some ⟨g, 0, none⟩) (n + 1) cp) (n + 1) (xs ++ [.slice b m cp0]) → Frm v.ownBlock.toList w w' → K (a.put o.dst (.slice (some ⟨g, 0, none⟩) (n + 1) cp)) w') :
    if Region.wanted o (yielded ops a.tmps) = true then Oper.wp Try.prog o a w K Q else E := by
  obtain ⟨i0, hi, hz0, hz1, hz2⟩ := info_parts infoInts
  refine step_append_lies w hgd s x 65 ho B 22 i0 (.slice none 0 0) 1 24 Try.underlying65 hi hz0 hz1 hz2 rfl (by decide) v n xs hs hown ad 1 c [.slice b m cp0] hx rfl ?_ ?_ (by decide) (by unfold maxLen; omega) (by omega) hB H hH ?_
  · intro j u hj
    cases j with
    | zero => simp at hj; rw [← hj]; exact hnews
    | succ j => simp at hj
  · intro u hu
    rw [List.mem_singleton] at hu
    rw [hu]; rfl
  · intro g cp w' hown' hgr _ _
    exact h g cp w' hown' ((Frm.refl _ _).grown hgr (fun k hk => .inl (by simp [hk])))

end Go.Proofs.Ytknfdpkfomlckaa
