/- The reference's disk: contract of without. -/
import Derived.Test.YtkebdgbjgbcneaaE4
namespace Go.Proofs.Ytkebdgbjgbcneaa
open Go.RowKit Go.Maps Go.Shelf

theorem infoN : (Try.prog.info? 96).map (fun i => (i.zero, i.size, i.bytes)) = some (some (.agg #[str [], .int .i64 0]), 2, 24) := by kernel_rfl
theorem dirC_app (l k : Dir) : dirC (l ++ k) = dirC l ++ dirC k := by simp [dirC]
/-- append(s, x) at the reference's directories. -/
theorem app_name {w : World} {ops : Array Oper} {rest : List Oper} {o : Oper} {a : Act} {Q : Exit → Act → World → Prop} (hgd : o.guard = none) (s x : Operand)
    (ho : o.op = .call { callee := .builtin .append, args := #[s, x], argTypes := #[74, 74] })
    (B n : Nat) (v : Value) (xs : Dir) (hs : a.eval s = v) (hown : w.ownsRow B 96 2 v n (dirC xs)) (g : Nat) (p : Nm × Nat) (hx : a.eval x = .slice (some ⟨g, 0, none⟩) 1 1) (hy : RowAt w g 96 [str p.1, .int .i64 (p.2 : Int)]) (hb : n ≤ 100000) (hB : B ≤ w.heap.size)
    (h : ∀ a' cp w', w'.ownsRow B 96 2 (.slice a' (n + 1) cp) (n + 1) (dirC (xs ++ [p])) → Frm v.ownBlock.toList w w' → (∀ k, (Value.slice a' (n + 1) cp).ownBlock = some k → v.ownBlock = some k ∨ k = w.heap.size) → wpList Try.prog ops Q rest (a.put o.dst (.slice a' (n + 1) cp)) w') : wpList Try.prog ops Q (o :: rest) a w := by
  obtain ⟨i0, hi, hz0, hz1, hz2⟩ := info_parts infoN
  refine Go.wpList_append_own_at w hgd s x 74 ho B 96 i0 (.agg #[str [], .int .i64 0]) 2 24 Try.underlying74 hi hz0 hz1 hz2 rfl (by decide) v n (dirC xs) hs hown ⟨g, 0, none⟩ 1 1 (dirC [p]) hx rfl (fun j u hj => ?_) (fun u hu => ?_) (by unfold maxLen; omega) (by omega) hB ?_
  · rw [Addr.add_lit, Nat.zero_add]
    exact hy.cell hj
  · simp only [dirC, List.flatMap_cons, List.flatMap_nil, List.append_nil, List.mem_cons, List.not_mem_nil, or_false] at hu
    rcases hu with rfl | rfl <;> rfl
  · intro v' w' hown' hgr _ hloc
    obtain ⟨a', cp, rfl, _⟩ := owns_shape (ownsB_mono hown' (Nat.zero_le _))
    refine h a' cp w' (by rw [dirC_app]; exact hown') ((Frm.refl _ _).grown hgr (fun k hk => .inl (by simp [hk]))) (fun k hk => ?_)
    rcases hloc with h9 | h9
    · exact .inl (by rw [← h9]; exact hk)
    · rw [h9] at hk
      exact .inr (by simpa using hk.symm)
/-- A row that has just been made is a row to be read. -/
theorem rowV_of_owns {w : World} {B e n size : Nat} {v : Value} {xs : List Value} {F : List Nat} (h : w.ownsRow B e size v n xs) (hF : ∀ k ∈ F, v.ownBlock ≠ some k) : RowV w F v n size xs := by
  refine ⟨h.1, ?_⟩
  rcases h.2 with ⟨rfl, rfl⟩ | ⟨g, cap, cur, rfl, _, hg, h1, h2, h3, h4⟩
  · refine ⟨none, 0, rfl, Nat.le_refl _, Nat.zero_le _, fun _ => rfl, fun i u hu => ?_⟩
    have hx : xs = [] := List.eq_nil_of_length_eq_zero (by have := h.1; simpa using this)
    rw [hx] at hu
    simp at hu
  · refine ⟨some ⟨g, 0, none⟩, cap, rfl, h1, h2, (fun h => by cases h), fun i u hu => ⟨g, 0, rfl, fun hm => hF g hm rfl, (Array.getElem?_eq_some_iff.1 hg).1, ?_⟩⟩
    rw [Nat.zero_add]
    exact RowAt.cell (xs := xs) (e := e) ⟨cur, hg, by rw [h.1]; exact h4⟩ hu
/-- The row is new: it is in no block of F, which are older. -/
theorem rowV_new {w : World} {B e n size : Nat} {v : Value} {xs : List Value} {F : List Nat} (h : w.ownsRow B e size v n xs) (hF : ∀ k ∈ F, k < B) : RowV w F v n size xs :=
  rowV_of_owns h (fun k hk e => by have := (h.lt k e).1; have := hF k hk; omega)
theorem frm_own {w w1 w2 : World} {B e n size : Nat} {v : Value} {xs : List Value} (h : Frm [] w w1) (ho : w1.ownsRow B e size v n xs) (hB : w.heap.size ≤ B) (hf : Frm v.ownBlock.toList w1 w2) : Frm [] w w2 :=
  h.trans hf (fun x hx => .inr (Nat.le_trans hB (ho.lt x (by simpa using hx)).1))
theorem oneCell_dirC (l : Dir) : ∀ u ∈ dirC l, u.oneCell' = true := fun u hu => by
  simp only [dirC, List.mem_flatMap, List.mem_cons, List.not_mem_nil, or_false] at hu
  obtain ⟨p, _, rfl | rfl⟩ := hu <;> rfl
/-- append(s, y...): s is a row of the call's own, y a row that is read. -/
theorem app_row {w : World} {ops : Array Oper} {rest : List Oper} {o : Oper} {a : Act} {Q : Exit → Act → World → Prop} (hgd : o.guard = none) (s x : Operand) (t e : TypeId) (z : Value) (size bytes : Nat)
    (ho : o.op = .call { callee := .builtin .append, args := #[s, x], argTypes := #[t, t] }) (ht : Try.prog.underlying t = some (.slice e))
    (hinfo : (Try.prog.info? e).map (fun i => (i.zero, i.size, i.bytes)) = some (some z, size, bytes)) (hzs : z.cells.size = size) (hsz : 0 < size) (hby : bytes ≤ 1000)
    (B n : Nat) (v : Value) (xs : List Value) (hs : a.eval s = v) (hown : w.ownsRow B e size v n xs) (u : Value) (m : Nat) (ys : List Value) (F : List Nat) (hx : a.eval x = u) (hy : RowV w F u m size ys) (h1 : ∀ u ∈ ys, u.oneCell' = true)
    (N : Nat) (hN : n + m = N) (hb : N ≤ 100000000) (hB : B ≤ w.heap.size)
    (h : ∀ a' cp w', w'.ownsRow B e size (.slice a' N cp) N (xs ++ ys) → Frm v.ownBlock.toList w w' → (∀ k, (Value.slice a' N cp).ownBlock = some k → v.ownBlock = some k ∨ k = w.heap.size) → wpList Try.prog ops Q rest (a.put o.dst (.slice a' N cp)) w') : wpList Try.prog ops Q (o :: rest) a w := by
  obtain ⟨i0, hi, hz0, hz1, hz2⟩ := info_parts hinfo
  obtain ⟨hl, ad, c, rfl, hmc, hcm, hnil, hcell⟩ := hy
  subst hN
  cases ad with
  | none =>
    have h0 := hnil rfl
    subst h0
    have hm : m = 0 := by omega
    subst hm
    have hys : ys = [] := List.eq_nil_of_length_eq_zero (by rw [hl, Nat.zero_mul])
    subst hys
    obtain ⟨a', cp, rfl, _⟩ := owns_shape (ownsB_mono hown (Nat.zero_le _))
    refine wpList_append_own_none hgd s x t ho B e i0 size ht hi _ n xs hs hown hx ?_
    exact h a' cp w (by rw [List.append_nil]; exact hown) (Frm.refl _ _) (fun k hk => .inl hk)
  | some p =>
    refine Go.wpList_append_own_at w hgd s x t ho B e i0 z size bytes ht hi hz0 hz1 hz2 hzs hsz v n xs hs hown p m c ys hx hl (fun j u hj => ?_) h1 (by unfold maxLen; omega) (by calc (n + m) * bytes ≤ 100000000 * 1000 := Nat.mul_le_mul hb hby
      _ ≤ _ := by decide) hB ?_
    · obtain ⟨b, o', e9, _, _, hc⟩ := hcell j u hj
      cases e9
      rw [Addr.add_lit]
      exact hc
    · intro v' w' hown' hgr _ hloc
      obtain ⟨a', cp, rfl, _⟩ := owns_shape (ownsB_mono hown' (Nat.zero_le _))
      refine h a' cp w' hown' ((Frm.refl _ _).grown hgr (fun k hk => .inl (by simp [hk]))) (fun k hk => ?_)
      rcases hloc with h9 | h9
      · exact .inl (by rw [← h9]; exact hk)
      · rw [h9] at hk
        exact .inr (by simpa using hk.symm)

end Go.Proofs.Ytkebdgbjgbcneaa
