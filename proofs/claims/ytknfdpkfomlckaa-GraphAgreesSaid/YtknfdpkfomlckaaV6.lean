/- Plain law: following distances. No program. -/
import Derived.Test.YtknfdpkfomlckaaY2
import Derived.Test.YtknfdpkfomlckaaV5
namespace Go.Proofs.Ytknfdpkfomlckaa

theorem followL_some {d : List Int} {x : Int} : ∀ {ts : List Nat}, (∃ b ∈ ts, Tj.ix d b = x) → ∃ t : Nat, t ∈ ts ∧ followL d x ts = (t : Int) ∧ Tj.ix d t = x
  | [], h => by obtain ⟨b, hb, _⟩ := h; cases hb
  | t :: r, h => by
    by_cases h1 : Tj.ix d t = x
    · exact ⟨t, List.mem_cons_self .., by rw [followL, if_pos h1], h1⟩
    · obtain ⟨b, hb, hbx⟩ := h
      rcases List.mem_cons.1 hb with rfl | hb
      · exact absurd hbx h1
      · obtain ⟨u, h2, h3, h4⟩ := followL_some (ts := r) ⟨b, hb, hbx⟩
        exact ⟨u, List.mem_cons_of_mem _ h2, by rw [followL, if_neg h1, h3], h4⟩

/-- The next state on the way to a goal. -/
def nxt (E : Nat → List Nat) (d : List Int) (s : Nat) : Nat := (followL d (Tj.ix d s - 1) (E s)).toNat
def endN (E : Nat → List Nat) (d : List Int) : Nat → Nat → Nat
  | 0, s => s
  | k + 1, s => endN E d k (nxt E d s)
def walkN (E : Nat → List Nat) (d : List Int) : Nat → Nat → List Nat
  | 0, _ => []
  | k + 1, s => s :: walkN E d k (nxt E d s)
theorem endN_snoc (E : Nat → List Nat) (d : List Int) : ∀ (k s : Nat), endN E d (k + 1) s = nxt E d (endN E d k s)
  | 0, _ => rfl
  | k + 1, s => by rw [endN, endN_snoc E d k, endN]
theorem walkN_snoc (E : Nat → List Nat) (d : List Int) : ∀ (k s : Nat), walkN E d (k + 1) s = walkN E d k s ++ [endN E d k s]
  | 0, _ => rfl
  | k + 1, s => by rw [walkN, walkN_snoc E d k, walkN, endN, List.cons_append]
theorem walkN_len (E : Nat → List Nat) (d : List Int) : ∀ (k s : Nat), (walkN E d k s).length = k
  | 0, _ => rfl
  | k + 1, s => by rw [walkN, List.length_cons, walkN_len E d k]

theorem dist_next {E : Nat → List Nat} {n : Nat} {g : Nat → Prop} {d : List Int} (hE : ∀ a b, a < n → b ∈ E a → b < n) (h : IsDist E n g d) {s : Nat} (hs : s < n) (h0 : 0 < Tj.ix d s) : ∃ b ∈ E s, Tj.ix d b = Tj.ix d s - 1 := by
  obtain ⟨k, u, hk, hu, hp⟩ := h.some s hs (by omega)
  cases hp with
  | refl a => omega
  | step e hp =>
    rename_i k b
    have hb := hE _ _ hs e
    rcases (show Tj.ix d b < 0 ∨ 0 ≤ Tj.ix d b by omega) with h1 | h1
    · exact absurd hp ((h.none b hb h1).2 _ u hu)
    · have h2 := h.least b _ u hb h1 hu hp
      obtain ⟨k', u', hk', hu', hp'⟩ := h.some b hb h1
      have h3 := h.least s (k' + 1) u' hs (by omega) hu' (.step e hp')
      exact ⟨b, e, by omega⟩
theorem nxt_ok {E : Nat → List Nat} {n : Nat} {g : Nat → Prop} {d : List Int} (hE : ∀ a b, a < n → b ∈ E a → b < n) (h : IsDist E n g d) {s : Nat} (hs : s < n) (h0 : 0 < Tj.ix d s) : nxt E d s < n ∧ nxt E d s ∈ E s ∧ Tj.ix d (nxt E d s) = Tj.ix d s - 1 ∧ followL d (Tj.ix d s - 1) (E s) = (nxt E d s : Nat) := by
  obtain ⟨t, h1, h2, h3⟩ := followL_some (dist_next hE h hs h0)
  have : nxt E d s = t := by rw [nxt, h2]; rfl
  rw [this]
  exact ⟨hE _ _ hs h1, h1, h3, h2⟩
theorem endN_ok {E : Nat → List Nat} {n : Nat} {g : Nat → Prop} {d : List Int} (hE : ∀ a b, a < n → b ∈ E a → b < n) (h : IsDist E n g d) : ∀ (j s : Nat), s < n → (j : Int) ≤ Tj.ix d s → endN E d j s < n ∧ Tj.ix d (endN E d j s) = Tj.ix d s - j
  | 0, s, hs, _ => ⟨hs, by simp [endN]⟩
  | j + 1, s, hs, hj => by
    have h1 := nxt_ok hE h hs (by omega)
    have h2 := endN_ok hE h j (nxt E d s) h1.1 (by rw [h1.2.2.1]; omega)
    exact ⟨h2.1, by rw [endN, h2.2, h1.2.2.1]; push_cast; omega⟩
theorem dist_goal {E : Nat → List Nat} {n : Nat} {g : Nat → Prop} {d : List Int} (h : IsDist E n g d) {s : Nat} (hs : s < n) : Tj.ix d s = 0 ↔ g s := by
  constructor
  · intro h0
    obtain ⟨k, u, hk, hu, hp⟩ := h.some s hs (by omega)
    obtain rfl : k = 0 := by omega
    cases hp
    exact hu
  · intro hg
    rcases (show Tj.ix d s < 0 ∨ 0 ≤ Tj.ix d s by omega) with h1 | h1
    · exact absurd (.refl s) ((h.none s hs h1).2 0 s hg)
    · have := h.least s 0 s hs h1 hg (.refl s)
      omega

/-- The least distance that is not -1, or -1. -/
def leastF (d : List Int) (ts : List Nat) : Int := ts.foldl (fun acc t => if 0 ≤ Tj.ix d t ∧ (acc < 0 ∨ Tj.ix d t < acc) then Tj.ix d t else acc) (-1)
theorem leastF_snoc (d : List Int) (ts : List Nat) (t : Nat) : leastF d (ts ++ [t]) = if 0 ≤ Tj.ix d t ∧ (leastF d ts < 0 ∨ Tj.ix d t < leastF d ts) then Tj.ix d t else leastF d ts := by
  unfold leastF
  rw [List.foldl_append]
  rfl
theorem leastF_spec (d : List Int) (ts : List Nat) : (leastF d ts = -1 ∧ ∀ t ∈ ts, Tj.ix d t < 0) ∨ (0 ≤ leastF d ts ∧ (∃ t ∈ ts, Tj.ix d t = leastF d ts) ∧ ∀ t ∈ ts, 0 ≤ Tj.ix d t → leastF d ts ≤ Tj.ix d t) := by
  suffices h : ∀ k, k ≤ ts.length → (leastF d (ts.take k) = -1 ∧ ∀ t ∈ ts.take k, Tj.ix d t < 0) ∨ (0 ≤ leastF d (ts.take k) ∧ (∃ t ∈ ts.take k, Tj.ix d t = leastF d (ts.take k)) ∧ ∀ t ∈ ts.take k, 0 ≤ Tj.ix d t → leastF d (ts.take k) ≤ Tj.ix d t) by
    have := h ts.length (Nat.le_refl _)
    rwa [List.take_length] at this
  intro k
  induction k with
  | zero => intro _; left; simp [leastF]
  | succ k ih =>
    intro hk
    have hk' : k < ts.length := hk
    rw [List.take_add_one, List.getElem?_eq_getElem hk', Option.toList_some, leastF_snoc]
    generalize ts[k] = x
    rcases ih (by omega) with ⟨h1, h2⟩ | ⟨h1, ⟨t, h2, h3⟩, h4⟩
    · rw [h1]
      by_cases hx : 0 ≤ Tj.ix d x
      · rw [if_pos ⟨hx, .inl (by omega)⟩]
        right
        refine ⟨hx, ⟨x, by simp, rfl⟩, fun u hu h0 => ?_⟩
        rcases List.mem_append.1 hu with hu | hu
        · have := h2 u hu; omega
        · rw [List.mem_singleton.1 hu]; exact Int.le_refl _
      · rw [if_neg (fun h => hx h.1)]
        left
        refine ⟨rfl, fun u hu => ?_⟩
        rcases List.mem_append.1 hu with hu | hu
        · exact h2 u hu
        · rw [List.mem_singleton.1 hu]; omega
    · by_cases hx : 0 ≤ Tj.ix d x ∧ (leastF d (ts.take k) < 0 ∨ Tj.ix d x < leastF d (ts.take k))
      · rw [if_pos hx]
        right
        refine ⟨hx.1, ⟨x, by simp, rfl⟩, fun u hu h0 => ?_⟩
        rcases List.mem_append.1 hu with hu | hu
        · have := h4 u hu h0; omega
        · rw [List.mem_singleton.1 hu]; exact Int.le_refl _
      · rw [if_neg hx]
        right
        refine ⟨h1, ⟨t, by simp [h2], h3⟩, fun u hu h0 => ?_⟩
        rcases List.mem_append.1 hu with hu | hu
        · exact h4 u hu h0
        · rw [List.mem_singleton.1 hu] at h0 ⊢; omega

/-- Path and cycle of a lasso. -/
structure IsLas (E : Nat → List Nat) (n s : Nat) (p c : List Nat) : Prop where
  h : ∃ (d d' : List Int) (k t x m : Nat), IsDist E n (fun v => v < n ∧ OnC E v) d ∧ Tj.ix d s = k ∧ t = endN E d k s ∧ p = walkN E d k s ++ [t] ∧ IsDist E n (fun v => v = t) d' ∧ leastF d' (E t) = m ∧ followL d' m (E t) = x ∧ x ∈ E t ∧ Tj.ix d' x = m ∧ c = t :: walkN E d' m x

theorem least_cyc {E : Nat → List Nat} {n t : Nat} {d' : List Int} (hE : ∀ a b, a < n → b ∈ E a → b < n) (h : IsDist E n (fun v => v = t) d') (ht : t < n) (ho : OnC E t) : ∃ m x : Nat, leastF d' (E t) = m ∧ followL d' m (E t) = x ∧ x ∈ E t ∧ Tj.ix d' x = m := by
  obtain ⟨a, ha, hp⟩ := ho
  have ha' := hE _ _ ht ha
  have h0 : 0 ≤ Tj.ix d' a := by
    rcases (show Tj.ix d' a < 0 ∨ 0 ≤ Tj.ix d' a by omega) with h1 | h1
    · obtain ⟨k, hk⟩ := hp.pathN
      exact absurd hk ((h.none a ha' h1).2 k t rfl)
    · exact h1
  rcases leastF_spec d' (E t) with ⟨_, h2⟩ | ⟨h1, h2, _⟩
  · have := h2 a ha; omega
  · obtain ⟨m, hm⟩ : ∃ m : Nat, leastF d' (E t) = m := ⟨(leastF d' (E t)).toNat, by omega⟩
    rw [hm] at h2
    obtain ⟨x, h3, h4, h5⟩ := followL_some h2
    exact ⟨m, x, hm, h4, h3, h5⟩

/-- Any two lassos are the same. -/
theorem IsLas.unique {E : Nat → List Nat} {n s : Nat} {p c p' c' : List Nat} (h : IsLas E n s p c) (h' : IsLas E n s p' c') : p = p' ∧ c = c' := by
  obtain ⟨d1, e1, k1, t1, x1, m1, a1, a2, a3, a4, a5, a6, a7, _, _, a8⟩ := h.h
  obtain ⟨d2, e2, k2, t2, x2, m2, b1, b2, b3, b4, b5, b6, b7, _, _, b8⟩ := h'.h
  obtain rfl := a1.unique b1
  obtain rfl : k1 = k2 := by omega
  rw [← a3] at b3
  subst b3
  obtain rfl := a5.unique b5
  obtain rfl : m1 = m2 := by omega
  obtain rfl : x1 = x2 := by omega
  exact ⟨by rw [a4, b4], by rw [a8, b8]⟩

/-- What the program's Lasso says. -/
structure LassoIs (E : Nat → List Nat) (n : Nat) (v : Bool) (s : Int) (p c : List Nat) (ok : Bool) : Prop where
  yes : ok = true → v = true ∧ ∃ k : Nat, s = k ∧ k < n ∧ Div E k ∧ IsLas E n k p c
  no : ok = false → p = [] ∧ c = [] ∧ ¬ (v = true ∧ ∃ k : Nat, s = k ∧ k < n ∧ Div E k)

end Go.Proofs.Ytknfdpkfomlckaa
