/- A system that the call has made: its outer row at block g, its rows behind it. Laws of Insert. -/
import Derived.Test.YtknfdpkfomlckaaGA
namespace Go.Proofs.Ytknfdpkfomlckaa
open Go.RowKit

/-! ### Insert keeps rows valid -/
theorem insA_cons (a : Arc) (r : List Arc) (x : Arc) : insA (a :: r) x = if ltA a x then a :: insA r x else if a = x then a :: r else x :: a :: r := by
  unfold insA insAt
  cases h : ltA a x with
  | true =>
    simp only [List.takeWhile_cons, h, if_true, List.length_cons, List.getElem?_cons_succ, List.take_succ_cons, List.drop_succ_cons, List.cons_append]
    split <;> rfl
  | false => simp [h]
theorem insA_nil (x : Arc) : insA [] x = [x] := by simp [insA, insAt]
theorem ltA_irr (a : Arc) : ltA a a = false := by simp [ltA]
theorem ltA_tri {a x : Arc} (h : ltA a x = false) (hn : a ≠ x) : ltA x a = true := by
  obtain ⟨e, t⟩ := a
  obtain ⟨f, u⟩ := x
  simp only [ltA, Bool.or_eq_false_iff, decide_eq_false_iff_not, Bool.and_eq_false_iff, Bool.or_eq_true, decide_eq_true_eq, Bool.and_eq_true] at h ⊢
  have : ¬ (e = f ∧ t = u) := fun h2 => hn (by rw [h2.1, h2.2])
  omega
theorem ascB_cons (a : Arc) (s : List Arc) : ascB (a :: s) = true ↔ ascB s = true ∧ ∀ b, s.head? = some b → ltA a b = true := by
  cases s with
  | nil => simp [ascB]
  | cons b r => simp [ascB, and_comm]
theorem insA_head (r : List Arc) (x b : Arc) (h : (insA r x).head? = some b) : b = x ∨ r.head? = some b := by
  cases r with
  | nil => rw [insA_nil] at h; simp at h; exact .inl h.symm
  | cons a s =>
    rw [insA_cons] at h
    split at h
    · simp at h; exact .inr (by simp [h])
    · split at h
      · simp at h; exact .inr (by simp [h])
      · simp at h; exact .inl h.symm
theorem ascB_insA {r : List Arc} (h : ascB r = true) (x : Arc) : ascB (insA r x) = true := by
  induction r with
  | nil => rw [insA_nil]; rfl
  | cons a s ih =>
    rw [insA_cons]
    have hc := (ascB_cons a s).1 h
    split
    · rename_i hlt
      refine (ascB_cons _ _).2 ⟨ih hc.1, fun b hb => ?_⟩
      rcases insA_head _ _ _ hb with rfl | hb
      · exact hlt
      · exact hc.2 b hb
    · split
      · exact h
      · rename_i hlt hne
        exact (ascB_cons _ _).2 ⟨h, fun b hb => by simp at hb; subst hb; exact ltA_tri (by simpa using hlt) hne⟩
theorem mem_insA {r : List Arc} {x y : Arc} (h : y ∈ insA r x) : y = x ∨ y ∈ r := by
  induction r with
  | nil => rw [insA_nil] at h; simp at h; exact .inl h
  | cons a s ih =>
    rw [insA_cons] at h
    split at h
    · rcases List.mem_cons.1 h with rfl | h
      · exact .inr (by simp)
      · rcases ih h with h | h
        · exact .inl h
        · exact .inr (by simp [h])
    · split at h
      · exact .inr h
      · rcases List.mem_cons.1 h with rfl | h
        · exact .inl rfl
        · exact .inr h

/-- A row of a valid system of n states, with at most m arcs. -/
def RowOk (n m : Nat) (row : List Arc) : Prop := ascB row = true ∧ (∀ a ∈ row, arcOk n a = true) ∧ row.length ≤ m
theorem RowOk.nil (n m : Nat) : RowOk n m [] := ⟨rfl, by simp, Nat.zero_le _⟩
theorem RowOk.ins {n m : Nat} {row : List Arc} (h : RowOk n m row) {x : Arc} (hx : arcOk n x = true) : RowOk n (m + 1) (insA row x) :=
  ⟨ascB_insA h.1 x, fun a ha => (mem_insA ha).elim (fun e => e ▸ hx) (h.2.1 a), by have := insA_len row x; have := h.2.2; omega⟩
theorem RowOk.mono {n m k : Nat} {row : List Arc} (h : RowOk n m row) (hk : m ≤ k) : RowOk n k row := ⟨h.1, h.2.1, Nat.le_trans h.2.2 hk⟩
theorem arcOk_of {n : Nat} {e t : Int} (h1 : 0 ≤ e) (h2 : e ≤ 1025) (h3 : 0 ≤ t) (h4 : t < (n : Int)) : arcOk n (e, t) = true := by
  simp only [arcOk, Bool.not_eq_true', Bool.or_eq_false_iff, decide_eq_false_iff_not]
  omega

/-! ### A system that the call has made -/
def MAt (g : Nat) (w : World) (l : Lts) : Prop := ∃ xs : List Value, RowAt w g 49 xs ∧ xs.length = l.length ∧
  ∀ (i : Nat) (row : List Arc), l[i]? = some row → ∃ (a : Option Addr) (cp : Nat), xs[i]? = some (Value.slice a row.length cp) ∧ OwnR (g + 1) w (.slice a row.length cp) row ∧ (row = [] → a = none ∧ cp = 0)

theorem MAt.lt {g : Nat} {w : World} {l : Lts} (h : MAt g w l) : g < w.heap.size := by
  obtain ⟨xs, h1, _⟩ := h
  exact h1.lt
theorem own_lt {B : Nat} {w : World} {v : Value} {row : List Arc} (h : OwnR B w v row) {k : Nat} (hk : v.ownBlock = some k) : B ≤ k := (h.lt k hk).1
theorem MAt.frm {g : Nat} {fp : List Nat} {w w' : World} {l : Lts} (h : MAt g w l) (hf : Frm fp w w') (hn : ∀ k ∈ fp, k < g) : MAt g w' l := by
  obtain ⟨xs, h1, h2, h3⟩ := h
  refine ⟨xs, h1.frm hf (fun hm => by have := hn _ hm; omega), h2, fun i row hi => ?_⟩
  obtain ⟨a, cp, h4, h5, h6⟩ := h3 i row hi
  exact ⟨a, cp, h4, ownsB_frm h5 hf (fun k hk hm => by have := hn _ hm; have := own_lt h5 hk; omega), h6⟩
theorem MAt.cell {g : Nat} {w : World} {l : Lts} (h : MAt g w l) {i : Nat} {row : List Arc} (hi : l[i]? = some row) : ∃ a cp, w.cell? ⟨g, i, none⟩ = some (.slice a row.length cp) ∧ OwnR (g + 1) w (.slice a row.length cp) row ∧ (row = [] → a = none ∧ cp = 0) := by
  obtain ⟨xs, h1, h2, h3⟩ := h
  obtain ⟨a, cp, h4, h5, h6⟩ := h3 i row hi
  exact ⟨a, cp, h1.cell h4, h5, h6⟩
theorem MAt.frozen {g : Nat} {w : World} {l : Lts} (h : MAt g w l) (i : Nat) : w.frozen? ⟨g, i, none⟩ = false := by
  obtain ⟨xs, h1, _⟩ := h
  exact h1.frozen i
theorem MAt.set {g : Nat} {w : World} {l : Lts} (h : MAt g w l) {i : Nat} {a : Option Addr} {cp : Nat} {row : List Arc} (ho : OwnR (g + 1) w (.slice a row.length cp) row) (h0 : row = [] → a = none ∧ cp = 0) : MAt g (w.setCell ⟨g, i, none⟩ (.slice a row.length cp)) (l.set i row) := by
  obtain ⟨xs, h1, h2, h3⟩ := h
  refine ⟨xs.set i (.slice a row.length cp), h1.setCell i _, by simp [h2], fun j r hj => ?_⟩
  rw [List.getElem?_set] at hj
  split at hj
  · rename_i hij
    subst hij
    split at hj
    · rename_i hl
      cases hj
      exact ⟨a, cp, by rw [List.getElem?_set_self (by omega)], ownsB_other ho (by simp) _, h0⟩
    · cases hj
  · rename_i hij
    obtain ⟨a2, cp2, h4, h5, h6⟩ := h3 j r hj
    exact ⟨a2, cp2, by rw [List.getElem?_set_ne hij]; exact h4, ownsB_other h5 (by simp) _, h6⟩
theorem MAt.lat {g : Nat} {w : World} {l : Lts} (h : MAt g w l) (hl : l.length ≤ 140737488355328) (hr : ∀ row ∈ l, row.length ≤ 140737488355328) : LAt w.heap.size w (some ⟨g, 0, none⟩) l.length l := by
  refine ⟨Nat.le_refl _, by unfold maxLen; omega, hl, fun i row hi => ?_⟩
  obtain ⟨a, cp, h1, h2, _⟩ := h.cell hi
  exact ⟨g, 0, a, cp, rfl, h.lt, by rw [Nat.zero_add]; exact h1, rowR_of_own (ownsB_mono h2 (Nat.zero_le _)) (Nat.le_refl _) (hr row (List.mem_of_getElem? hi))⟩
theorem MAt.made (w : World) (n : Nat) : MAt w.heap.size (w.alloc (.cells (List.replicate n (Value.slice none 0 0)).toArray 49)) (List.replicate n []) := by
  refine ⟨List.replicate n (.slice none 0 0), RowAt.made _ _ _ _ (by simp), by simp, fun i row hi => ?_⟩
  rw [List.getElem?_replicate] at hi
  split at hi
  · cases hi
    exact ⟨none, 0, by rw [List.getElem?_replicate, if_pos (by assumption)]; rfl, ⟨rfl, .inl ⟨rfl, rfl⟩⟩, fun _ => ⟨rfl, rfl⟩⟩
  · cases hi

theorem infoRow : (Try.prog.info? 49).map (fun i => (i.zero, i.size, i.bytes)) = some (some (.slice none 0 0), 1, 24) := by kernel_rfl

/-- What LTS and Chain give: a valid system. -/
structure Sys (n m : Nat) (l : Lts) : Prop where
  pos : 1 ≤ l.length
  few : l.length ≤ n
  row : ∀ (i : Nat) (row : List Arc), l[i]? = some row → RowOk l.length m row

end Go.Proofs.Ytknfdpkfomlckaa
