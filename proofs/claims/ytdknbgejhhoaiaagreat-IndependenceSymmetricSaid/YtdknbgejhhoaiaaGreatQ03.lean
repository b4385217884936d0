/- Rows that are only read, rows of the call's own, appends: general, of no program's part. (Cut from the disk's E2, E5, E7, E9, EA, EE.) -/
import Derived.Test.YtdknbgejhhoaiaaGreatQ02
import Derived.Maps.AppendAt
import Derived.Laws.AppendOwnNone
namespace Go.Proofs.YtdknbgejhhoaiaaGreat
open Go.RowKit

/-- A row of n elements of 'size' cells that is only read; its block is none of F. -/
def RowV (w : World) (F : List Nat) (v : Value) (n size : Nat) (xs : List Value) : Prop :=
  xs.length = n * size ∧ ∃ a c, v = .slice a n c ∧ n ≤ c ∧ c ≤ maxLen ∧ (a = none → c = 0) ∧ ∀ (i : Nat) (u : Value), xs[i]? = some u → ∃ b o, a = some ⟨b, o, none⟩ ∧ b ∉ F ∧ b < w.heap.size ∧ w.cell? ⟨b, o + i, none⟩ = some u
theorem RowV.step {w w' : World} {F F' : List Nat} {v : Value} {n size : Nat} {xs : List Value} {fp : List Nat} (h : RowV w F v n size xs) (hf : Frm fp w w') (hn : ∀ k ∈ fp, k ∈ F ∨ w.heap.size ≤ k) (hF : ∀ k ∈ F', k ∈ F ∨ w.heap.size ≤ k) : RowV w' F' v n size xs := by
  obtain ⟨h1, a, c, e, h2, h3, h5, h4⟩ := h
  refine ⟨h1, a, c, e, h2, h3, h5, fun i u hu => ?_⟩
  obtain ⟨b, o, e2, hb, hl, hc⟩ := h4 i u hu
  refine ⟨b, o, e2, fun hm => ?_, Nat.lt_of_lt_of_le hl hf.size, hf.cell hc (fun hm => ?_)⟩
  · rcases hF b hm with h9 | h9
    · exact hb h9
    · omega
  · rcases hn _ hm with h9 | h9
    · exact hb h9
    · simp at h9; omega
theorem RowV.frm {w w' : World} {F : List Nat} {v : Value} {n size : Nat} {xs : List Value} {fp : List Nat} (h : RowV w F v n size xs) (hf : Frm fp w w') (hn : ∀ k ∈ fp, k ∈ F ∨ w.heap.size ≤ k) : RowV w' F v n size xs := h.step hf hn (fun _ hk => .inl hk)
theorem RowV.nil {w w' : World} {F : List Nat} {v : Value} {n size : Nat} {xs : List Value} (h : RowV w F v n size xs) (hf : Frm [] w w') : RowV w' F v n size xs := h.frm hf (by simp)
theorem RowV.less {w : World} {F F' : List Nat} {v : Value} {n size : Nat} {xs : List Value} (h : RowV w F v n size xs) (hF : ∀ k ∈ F', k ∈ F) : RowV w F' v n size xs := h.step (Frm.refl [] w) (by simp) (fun k hk => .inl (hF k hk))
/-- A row that has just been made is a row to be read. -/
theorem rowV_of_owns {w : World} {B e n size : Nat} {v : Value} {xs : List Value} {F : List Nat} (h : w.ownsRow B e size v n xs) (hF : ∀ k ∈ F, v.ownBlock ≠ some k) : RowV w F v n size xs := by
  refine ⟨h.1, ?_⟩
  rcases h.2 with ⟨rfl, rfl⟩ | ⟨g, cap, cur, rfl, _, hg, h1, h2, h3, h4⟩
  · refine ⟨none, 0, rfl, Nat.le_refl _, Nat.zero_le _, fun _ => rfl, fun i u hu => ?_⟩
    have hx : xs = [] := List.eq_nil_of_length_eq_zero (by have := h.1; simpa using this)
    rw [hx] at hu
    simp at hu
  · refine ⟨some ⟨g, 0, none⟩, cap, rfl, h1, h2, (fun h => by cases h), fun i u hu => ⟨g, 0, rfl, fun hm => hF g hm rfl, (Array.getElem?_eq_some_iff.1 hg).1, ?_⟩⟩
    rw [Nat.zero_add]
    exact RowAt.cell (xs := xs) (e := e) ⟨cur, hg, by rw [h.1]; exact h4⟩ hu
/-- The row is new: it is in no block of F, which are older. -/
theorem rowV_new {w : World} {B e n size : Nat} {v : Value} {xs : List Value} {F : List Nat} (h : w.ownsRow B e size v n xs) (hF : ∀ k ∈ F, k < B) : RowV w F v n size xs :=
  rowV_of_owns h (fun k hk e => by have := (h.lt k e).1; have := hF k hk; omega)
theorem frm_own {w w1 w2 : World} {B e n size : Nat} {v : Value} {xs : List Value} (h : Frm [] w w1) (ho : w1.ownsRow B e size v n xs) (hB : w.heap.size ≤ B) (hf : Frm v.ownBlock.toList w1 w2) : Frm [] w w2 :=
  h.trans hf (fun x hx => .inr (Nat.le_trans hB (ho.lt x (by simpa using hx)).1))
/-- append(s, y...): s is a row of the call's own, y a row that is read. -/
theorem app_row {w : World} {ops : Array Oper} {rest : List Oper} {o : Oper} {a : Act} {Q : Exit → Act → World → Prop} (hgd : o.guard = none) (s x : Operand) (t e : TypeId) (z : Value) (size bytes : Nat)
    (ho : o.op = .call { callee := .builtin .append, args := #[s, x], argTypes := #[t, t] }) (ht : Tryz.prog.underlying t = some (.slice e))
    (hinfo : (Tryz.prog.info? e).map (fun i => (i.zero, i.size, i.bytes)) = some (some z, size, bytes)) (hzs : z.cells.size = size) (hsz : 0 < size) (hby : bytes ≤ 1000)
    (B n : Nat) (v : Value) (xs : List Value) (hs : a.eval s = v) (hown : w.ownsRow B e size v n xs) (u : Value) (m : Nat) (ys : List Value) (F : List Nat) (hx : a.eval x = u) (hy : RowV w F u m size ys) (h1 : ∀ u ∈ ys, u.oneCell' = true)
    (N : Nat) (hN : n + m = N) (hb : N ≤ 100000000) (hB : B ≤ w.heap.size)
    (h : ∀ a' cp w', w'.ownsRow B e size (.slice a' N cp) N (xs ++ ys) → Frm v.ownBlock.toList w w' → (∀ k, (Value.slice a' N cp).ownBlock = some k → v.ownBlock = some k ∨ k = w.heap.size) → wpList Tryz.prog ops Q rest (a.put o.dst (.slice a' N cp)) w') : wpList Tryz.prog ops Q (o :: rest) a w := by
  obtain ⟨i0, hi, hz0, hz1, hz2⟩ := info_parts hinfo
  obtain ⟨hl, ad, c, rfl, hmc, hcm, hnil, hcell⟩ := hy
  subst hN
  cases ad with
  | none =>
    have h0 := hnil rfl
    subst h0
    have hm : m = 0 := by omega
    subst hm
    have hys : ys = [] := List.eq_nil_of_length_eq_zero (by rw [hl, Nat.zero_mul])
    subst hys
    obtain ⟨a', cp, rfl, _⟩ := owns_shape (ownsB_mono hown (Nat.zero_le _))
    refine wpList_append_own_none hgd s x t ho B e i0 size ht hi _ n xs hs hown hx ?_
    exact h a' cp w (by rw [List.append_nil]; exact hown) (Frm.refl _ _) (fun k hk => .inl hk)
  | some p =>
    refine Go.wpList_append_own_at w hgd s x t ho B e i0 z size bytes ht hi hz0 hz1 hz2 hzs hsz v n xs hs hown p m c ys hx hl (fun j u hj => ?_) h1 (by unfold maxLen; omega) (by calc (n + m) * bytes ≤ 100000000 * 1000 := Nat.mul_le_mul hb hby
      _ ≤ _ := by decide) hB ?_
    · obtain ⟨b, o', e9, _, _, hc⟩ := hcell j u hj
      cases e9
      rw [Addr.add_lit]
      exact hc
    · intro v' w' hown' hgr _ hloc
      obtain ⟨a', cp, rfl, _⟩ := owns_shape (ownsB_mono hown' (Nat.zero_le _))
      refine h a' cp w' hown' ((Frm.refl _ _).grown hgr (fun k hk => .inl (by simp [hk]))) (fun k hk => ?_)
      rcases hloc with h9 | h9
      · exact .inl (by rw [← h9]; exact hk)
      · rw [h9] at hk
        exact .inr (by simpa using hk.symm)

/-- Parts of a row. -/
theorem RowV.init {w : World} {F : List Nat} {a : Addr} {n c size : Nat} {xs : List Value} (h : RowV w F (.slice (some a) n c) n size xs) {k : Nat} (hk : k ≤ n) : RowV w F (.slice (some a) k c) k size (xs.take (k * size)) := by
  obtain ⟨h1, a, c', e, h2, h3, h5, h4⟩ := h
  cases e
  refine ⟨?_, _, _, rfl, Nat.le_trans hk h2, h3, (fun h => by cases h), fun j u hj => ?_⟩
  · rw [List.length_take, h1]
    exact Nat.min_eq_left (Nat.mul_le_mul_right _ hk)
  · rw [List.getElem?_take] at hj
    split at hj
    · exact h4 _ _ hj
    · cases hj
theorem RowV.tail {w : World} {F : List Nat} {b n c size : Nat} {xs : List Value} (h : RowV w F (.slice (some ⟨b, 0, none⟩) n c) n size xs) (k : Nat) : RowV w F (.slice (some ⟨b, k * size, none⟩) (n - k) (c - k)) (n - k) size (xs.drop (k * size)) := by
  obtain ⟨h1, a, c', e, h2, h3, h5, h4⟩ := h
  cases e
  refine ⟨?_, _, _, rfl, Nat.sub_le_sub_right h2 _, Nat.le_trans (Nat.sub_le _ _) h3, (fun h => by cases h), fun j u hj => ?_⟩
  · rw [List.length_drop, h1, ← Nat.sub_mul]
  · rw [List.getElem?_drop] at hj
    obtain ⟨b', o, e9, hb, hl, hc⟩ := h4 _ _ hj
    cases e9
    rw [Nat.zero_add] at hc
    exact ⟨b, k * size, rfl, hb, hl, hc⟩
theorem RowV.zero (w : World) (F : List Nat) (p : Addr) (n c size : Nat) (hn : n = 0) (hc : c ≤ maxLen) : RowV w F (.slice (some p) n c) n size [] := ⟨by rw [hn, Nat.zero_mul]; rfl, some p, c, rfl, by omega, hc, (fun h => by cases h), fun i u hu => by simp at hu⟩
theorem RowV.nil0 (w : World) (F : List Nat) (size : Nat) : RowV w F (.slice none 0 0) 0 size [] := ⟨(Nat.zero_mul _).symm, none, 0, rfl, Nat.le_refl _, Nat.zero_le _, fun _ => rfl, fun i u hu => by simp at hu⟩
/-- append(s, y...) as one step of a region that draws. -/
theorem step_app_row {w : World} {ops : Array Oper} {o : Oper} {a : Act} {K : Act → World → Prop} {Q : Exit → Act → World → Prop} {E : Prop} (hgd : o.guard = none) (s x : Operand) (t e : TypeId) (z : Value) (size bytes : Nat)
    (ho : o.op = .call { callee := .builtin .append, args := #[s, x], argTypes := #[t, t] }) (ht : Tryz.prog.underlying t = some (.slice e))
    (hinfo : (Tryz.prog.info? e).map (fun i => (i.zero, i.size, i.bytes)) = some (some z, size, bytes)) (hzs : z.cells.size = size) (hsz : 0 < size) (hby : bytes ≤ 1000)
    (B n : Nat) (v : Value) (xs : List Value) (hs : a.eval s = v) (hown : w.ownsRow B e size v n xs) (u : Value) (m : Nat) (ys : List Value) (F : List Nat) (hx : a.eval x = u) (hy : RowV w F u m size ys) (h1 : ∀ u ∈ ys, u.oneCell' = true)
    (N : Nat) (hN : n + m = N) (hb : N ≤ 100000000) (hB : B ≤ w.heap.size)
    (h : ∀ a' cp w', w'.ownsRow B e size (.slice a' N cp) N (xs ++ ys) → Frm v.ownBlock.toList w w' → K (a.put o.dst (.slice a' N cp)) w') :
    if Region.wanted o (yielded ops a.tmps) = true then Oper.wp Tryz.prog o a w K Q else E := by
  have hw : Region.wanted o (yielded ops a.tmps) = true := by simp [Region.wanted, hgd]
  rw [if_pos hw]
  obtain ⟨i0, hi, hz0, hz1, hz2⟩ := info_parts hinfo
  obtain ⟨hl, ad, c, rfl, hmc, hcm, hnil, hcell⟩ := hy
  subst hN
  cases ad with
  | none =>
    have h0 := hnil rfl
    subst h0
    have hm : m = 0 := by omega
    subst hm
    have hys : ys = [] := List.eq_nil_of_length_eq_zero (by rw [hl, Nat.zero_mul])
    subst hys
    obtain ⟨a', cp, rfl, _⟩ := owns_shape (ownsB_mono hown (Nat.zero_le _))
    have hrun := run_append_owned_none (P := Tryz.prog) (w := w) B t o.type e i0 size ht hi _ n xs hown
    unfold Oper.wp
    simp [execOp, ho, resolve, invoke, builtin, hs, hx, hrun, Result.andThen]
    exact h a' cp w (by rw [List.append_nil]; exact hown) (Frm.refl _ _)
  | some p =>
    obtain ⟨v', w', hr, hown', hgr, _, hloc⟩ := run_append_own_at (P := Tryz.prog) w B t o.type e i0 z size bytes ht hi hz0 hz1 hz2 hzs hsz v n xs hown p m c ys hl (fun j u hj => by
      obtain ⟨b, o', e9, _, _, hc⟩ := hcell j u hj
      cases e9
      rw [Addr.add_lit]
      exact hc) h1 (by unfold maxLen; omega) (by calc (n + m) * bytes ≤ 100000000 * 1000 := Nat.mul_le_mul hb hby
      _ ≤ _ := by decide) hB
    unfold Oper.wp execOp
    simp only [ho, resolve, invoke, builtin, Sem.run_bind, Sem.run_pure, Result.andThen_ok, List.map_toArray, List.map_cons, List.map_nil, hs, hx, hr]
    obtain ⟨a', cp, rfl, _⟩ := owns_shape (ownsB_mono hown' (Nat.zero_le _))
    exact h a' cp w' hown' ((Frm.refl _ _).grown hgr (fun k hk => .inl (by simp [hk])))

theorem owns_made0 (w : World) (e : TypeId) (size : Nat) : (w.alloc (.cells #[] e)).ownsRow w.heap.size e size (.slice (some ⟨w.heap.size, 0, none⟩) 0 0) 0 [] :=
  ⟨(Nat.zero_mul _).symm, .inr ⟨w.heap.size, 0, #[], rfl, Nat.le_refl _, heap_alloc_new w _, Nat.le_refl _, Nat.zero_le _, (Nat.zero_mul _).symm, by simp⟩⟩
theorem owns_made1 (w : World) (o : Obj) (e : TypeId) (size : Nat) : ((w.alloc o).alloc (.cells #[] e)).ownsRow w.heap.size e size (.slice (some ⟨w.heap.size + 1, 0, none⟩) 0 0) 0 [] := by
  have h := owns_made0 (w.alloc o) e size
  have hs : (w.alloc o).heap.size = w.heap.size + 1 := by simp
  rw [hs] at h
  exact ownsB_mono h (Nat.le_succ _)
theorem row_made1 (w : World) (o : Obj) (e : TypeId) (xs : List Value) (A : Array Value) (hA : A.toList.take xs.length = xs) : RowAt ((w.alloc o).alloc (.cells A e)) (w.heap.size + 1) e xs := by
  have h := RowAt.made (w.alloc o) e xs A hA
  have hs : (w.alloc o).heap.size = w.heap.size + 1 := by simp
  rwa [hs] at h
theorem rowV_cells {w : World} {F : List Nat} {x : Nat} {e : TypeId} {n size c : Nat} {xs : List Value} (h : RowAt w x e xs) (hl : xs.length = n * size) (hc : n ≤ c) (hm : c ≤ maxLen) (hx : x ∉ F) : RowV w F (.slice (some ⟨x, 0, none⟩) n c) n size xs :=
  ⟨hl, _, _, rfl, hc, hm, (fun h => by cases h), fun i u hu => ⟨x, 0, rfl, hx, h.lt, by rw [Nat.zero_add]; exact h.cell hu⟩⟩
theorem ownsB_setCell {w : World} {B e size : Nat} {v : Value} {n : Nat} {xs : List Value} {g : Nat} (h : w.ownsRow B e size v n xs) (hg : v.ownBlock = some g) (i : Nat) (u : Value) :
    (w.setCell ⟨g, i, none⟩ u).ownsRow B e size v n (xs.set i u) := by
  refine ⟨by rw [List.length_set]; exact h.1, ?_⟩
  rcases h.2 with ⟨rfl, _⟩ | ⟨g', cap, cur, rfl, h0, hgg, h1, h2, h3, h4⟩
  · simp [Value.ownBlock] at hg
  · simp [Value.ownBlock] at hg
    subst hg
    refine .inr ⟨g', cap, cur.setIfInBounds i u, rfl, h0, by simp [World.setCell, Array.getElem?_modify, hgg], h1, h2, by simpa using h3, ?_⟩
    rw [Array.toList_setIfInBounds, List.take_set, h4]
theorem ownsB_some {w : World} {B e size : Nat} {v : Value} {n : Nat} {xs : List Value} (h : w.ownsRow B e size v n xs) (hn : 0 < n) : ∃ g cap, v = .slice (some ⟨g, 0, none⟩) n cap ∧ B ≤ g ∧ n ≤ cap ∧ cap ≤ maxLen ∧ RowAt w g e xs := by
  rcases h.2 with ⟨_, h0⟩ | ⟨g, cap, cur, rfl, h0, hgg, h1, h2, h3, h4⟩
  · omega
  · exact ⟨g, cap, rfl, h0, h1, h2, cur, hgg, by rw [h.1]; exact h4⟩
theorem RowV.shape {w : World} {F : List Nat} {v : Value} {n size : Nat} {xs : List Value} (h : RowV w F v n size xs) : ∃ a c, v = .slice a n c := by
  obtain ⟨_, a, c, e, _⟩ := h
  exact ⟨a, c, e⟩
theorem drop_get {α : Type} {xs : List α} {k : Nat} {y : α} (h : xs[k]? = some y) : xs.drop k = y :: xs.drop (k + 1) := by
  obtain ⟨h1, h2⟩ := List.getElem?_eq_some_iff.1 h
  rw [List.drop_eq_getElem_cons h1, h2]
theorem RowV.rd {w : World} {F : List Nat} {a : Option Addr} {n c size : Nat} {xs : List Value} (h : RowV w F (.slice a n c) n size xs) : Rd w.heap.size w a n c size xs := by
  obtain ⟨h1, a', c', e, h2, h3, _, h4⟩ := h
  cases e
  exact ⟨h1, h2, h3, fun i u hu => by
    obtain ⟨b, o, e, _, hl, hc⟩ := h4 i u hu
    exact ⟨b, o, e, hl, hc⟩⟩
theorem Rd.nil {B : Nat} {w w' : World} {a : Option Addr} {n cap size : Nat} {xs : List Value} (h : Rd B w a n cap size xs) (hf : Frm [] w w') : Rd B w' a n cap size xs := h.frm hf (by simp)

end Go.Proofs.YtdknbgejhhoaiaaGreat
