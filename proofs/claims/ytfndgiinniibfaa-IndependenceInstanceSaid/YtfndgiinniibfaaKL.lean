/- Contract of slices.CompactFunc over the arcs of an instance. -/
import Derived.Test.YtfndgiinniibfaaKJ
import Derived.Laws.IdiomCopy
namespace Go.Proofs.Ytfndgiinniibfaa.Ind
open Go.Shelf Go.RowKit Go.Lib Go.Sort

theorem owns_cut {w : World} {B e size n k cap : Nat} {a : Option Addr} {xs : List Value} (h : w.ownsRow B e size (.slice a n cap) n xs) (hk : k ≤ n) (h0 : 0 < n) : w.ownsRow B e size (.slice a k cap) k (xs.take (k * size)) := by
  have hl := h.1
  have hle : k * size ≤ n * size := Nat.mul_le_mul_right size hk
  refine ⟨by rw [List.length_take, hl]; omega, ?_⟩
  rcases h.2 with ⟨h1, h2⟩ | ⟨g, cp, cur, h1, hb, hg, h2, h3, h4, h5⟩
  · omega
  · obtain ⟨rfl, rfl⟩ : a = some ⟨g, 0, none⟩ ∧ cap = cp := by simpa using h1
    refine .inr ⟨g, cap, cur, rfl, hb, hg, Nat.le_trans hk h2, h3, h4, ?_⟩
    rw [← h5, List.take_take, Nat.min_eq_left hle]
/-- Cells set one behind the other. -/
def setL (xs : List Value) (o : Nat) : List Value → List Value
  | [] => xs
  | v :: r => setL (xs.set o v) (o + 1) r
theorem setL_take : ∀ (vs xs : List Value) (o k : Nat), k ≤ o → (setL xs o vs).take k = xs.take k
  | [], _, _, _, _ => rfl
  | v :: r, xs, o, k, h => by
    rw [setL, setL_take r _ (o + 1) k (by omega)]
    apply List.ext_getElem?
    intro i
    rw [List.getElem?_take, List.getElem?_take, List.getElem?_set]
    split
    · split
      · omega
      · rfl
    · rfl
theorem owns_setCells {B e size n : Nat} {v : Value} {g : Nat} (hg : v.ownBlock = some g) : ∀ (vs : List Value) (o : Nat) (w : World) (xs : List Value), w.ownsRow B e size v n xs → (w.setCells g o vs).ownsRow B e size v n (setL xs o vs)
  | [], _, _, _, h => h
  | u :: r, o, w, xs, h => by
    rw [World.setCells, setL]
    exact owns_setCells hg r (o + 1) _ _ (ownsB_setCell h hg o u)
theorem frm_setCells {g : Nat} : ∀ (vs : List Value) (o : Nat) (w : World), Frm [g] w (w.setCells g o vs)
  | [], _, _ => Frm.refl _ _
  | u :: r, o, w => by
    rw [World.setCells]
    exact ((Frm.refl [g] w).setCell (p := ⟨g, o, none⟩) (.inl (by simp)) u).trans (frm_setCells r (o + 1) _) (fun x hx => .inl hx)
theorem set6 (l : List M6) : ∀ (k : Nat) (x : M6), k < l.length → (l.set k x).flatMap enc6 = setL (l.flatMap enc6) (k * 6) (enc6 x) := by
  intro k x hk
  apply List.ext_getElem?
  intro t
  have hs : ∀ (vs xs : List Value) (o : Nat), o + vs.length ≤ xs.length → (setL xs o vs)[t]? = if o ≤ t ∧ t < o + vs.length then vs[t - o]? else xs[t]? := by
    intro vs
    induction vs with
    | nil => intro xs o _; rw [setL, if_neg (by rintro ⟨h1, h2⟩; rw [List.length_nil] at h2; omega)]
    | cons v r ih =>
      intro xs o ho
      rw [List.length_cons] at ho ⊢
      rw [setL, ih _ _ (by rw [List.length_set]; omega), List.getElem?_set]
      by_cases h1 : o = t
      · subst h1
        rw [if_neg (by omega), if_pos rfl, if_pos (by omega), if_pos (by omega), Nat.sub_self]
        rfl
      · by_cases h2 : o + 1 ≤ t ∧ t < o + 1 + r.length
        · rw [if_pos h2, if_pos (by omega), show t - o = (t - (o + 1)) + 1 by omega]
          rfl
        · rw [if_neg h2, if_neg h1, if_neg (by omega)]
  have hlen := flatMap_len (enc := enc6) (k := 6) (fun _ => rfl)
  have h6 : (enc6 x).length = 6 := rfl
  rw [hs _ _ _ (by rw [hlen, h6]; omega), h6]
  by_cases ht : t < l.length * 6
  · have hd : t / 6 < l.length := by omega
    have hm : t % 6 < 6 := Nat.mod_lt _ (by decide)
    have et : t / 6 * 6 + t % 6 = t := by omega
    have h1 := flatMap_get (enc := enc6) (k := 6) (fun _ => rfl) (l := l) (List.getElem?_eq_getElem hd) (t % 6) hm
    have hd2 : t / 6 < (l.set k x).length := by rw [List.length_set]; exact hd
    have h2 := flatMap_get (enc := enc6) (k := 6) (fun _ => rfl) (l := l.set k x) (List.getElem?_eq_getElem hd2) (t % 6) hm
    rw [et] at h1 h2
    rw [h2, h1, List.getElem_set]
    by_cases hkt : k = t / 6
    · rw [if_pos hkt, if_pos (by omega)]
      congr 1
      omega
    · rw [if_neg hkt, if_neg (by omega)]
  · rw [List.getElem?_eq_none (by rw [hlen, List.length_set]; omega), if_neg (by omega), List.getElem?_eq_none (by rw [hlen]; omega)]
theorem compG_snoc {α : Type} [DecidableEq α] : ∀ (l : List α) (x : α), compG (l ++ [x]) = if l.getLast? = some x then compG l else compG l ++ [x]
  | [], x => by simp [compG]
  | [a], x => by
    by_cases h : a = x <;> simp [compG, h]
  | a :: b :: r, x => by
    have ih := compG_snoc (b :: r) x
    rw [List.cons_append] at ih
    rw [List.cons_append, List.cons_append, List.getLast?_cons_cons, compG, ih, compG]
    by_cases h : a = b
    · rw [if_pos h, if_pos h]
    · rw [if_neg h, if_neg h]
      split <;> rfl
theorem compG_len {α : Type} [DecidableEq α] : ∀ (l : List α), (compG l).length ≤ l.length
  | [] => by simp [compG]
  | [a] => by simp [compG]
  | a :: b :: r => by
    have ih := compG_len (b :: r)
    rw [compG]
    split
    · simp only [List.length_cons] at *; omega
    · simp only [List.length_cons] at *; omega
theorem take_last {α : Type} {l : List α} {k : Nat} {x : α} (h : l[k]? = some x) : (l.take (k + 1)).getLast? = some x := by
  rw [take_snoc h]; simp

end Go.Proofs.Ytfndgiinniibfaa.Ind
