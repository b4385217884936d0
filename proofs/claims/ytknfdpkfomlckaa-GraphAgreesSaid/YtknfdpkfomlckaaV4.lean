/- Plain law: the search backwards from goals finds the shortest paths. No program. -/
import Derived.Test.YtknfdpkfomlckaaV3
namespace Go.Proofs.Ytknfdpkfomlckaa

/-- Paths with their number of arcs. -/
inductive PathN (E : Nat → List Nat) : Nat → Nat → Nat → Prop
  | refl (a : Nat) : PathN E 0 a a
  | step {k a b c : Nat} : b ∈ E a → PathN E k b c → PathN E (k + 1) a c

structure IsDist (E : Nat → List Nat) (n : Nat) (goal : Nat → Prop) (out : List Int) : Prop where
  len : out.length = n
  none : ∀ v, v < n → Tj.ix out v < 0 → Tj.ix out v = -1 ∧ ∀ d g, goal g → ¬ PathN E d v g
  some : ∀ v, v < n → 0 ≤ Tj.ix out v → ∃ (d g : Nat), Tj.ix out v = d ∧ goal g ∧ PathN E d v g
  least : ∀ v d g, v < n → 0 ≤ Tj.ix out v → goal g → PathN E d v g → Tj.ix out v ≤ d
  bnd : ∀ v, v < n → Tj.ix out v < n

theorem IsDist.unique {E : Nat → List Nat} {n : Nat} {goal : Nat → Prop} {a b : List Int} (ha : IsDist E n goal a) (hb : IsDist E n goal b) : a = b := by
  refine List.ext_getElem (by rw [ha.len, hb.len]) (fun v h1 h2 => ?_)
  have hv : v < n := by rw [← ha.len]; exact h1
  have e1 : Tj.ix a v = a[v] := by simp [Tj.ix, List.getD_eq_getElem?_getD, h1]
  have e2 : Tj.ix b v = b[v] := by simp [Tj.ix, List.getD_eq_getElem?_getD, h2]
  rw [← e1, ← e2]
  rcases (show Tj.ix a v < 0 ∨ 0 ≤ Tj.ix a v by omega) with h3 | h3
  · rcases (show Tj.ix b v < 0 ∨ 0 ≤ Tj.ix b v by omega) with h4 | h4
    · rw [(ha.none v hv h3).1, (hb.none v hv h4).1]
    · obtain ⟨d, g, _, hg, hp⟩ := hb.some v hv h4
      exact absurd hp ((ha.none v hv h3).2 d g hg)
  · rcases (show Tj.ix b v < 0 ∨ 0 ≤ Tj.ix b v by omega) with h4 | h4
    · obtain ⟨d, g, _, hg, hp⟩ := ha.some v hv h3
      exact absurd hp ((hb.none v hv h4).2 d g hg)
    · obtain ⟨d, g, hd, hg, hp⟩ := ha.some v hv h3
      obtain ⟨d', g', hd', hg', hp'⟩ := hb.some v hv h4
      have h5 := ha.least v d' g' hv h3 hg' hp'
      have h6 := hb.least v d g hv h4 hg hp
      omega

structure Bfs (E P : Nat → List Nat) (n : Nat) (goal : Nat → Prop) (out : List Int) (q : List Nat) (i j : Nat) : Prop where
  len : out.length = n
  pred : ∀ s v, v < n → (s ∈ P v ↔ s < n ∧ v ∈ E s)
  mem : ∀ v, v ∈ q ↔ v < n ∧ 0 ≤ Tj.ix out v
  neg : ∀ v, v < n → Tj.ix out v < 0 → Tj.ix out v = -1
  srt : q.Pairwise (fun a b => Tj.ix out a ≤ Tj.ix out b)
  near : ∀ c, q[i]? = some c → ∀ u ∈ q, Tj.ix out u ≤ Tj.ix out c + 1
  done : ∀ k c, k < i → q[k]? = some c → ∀ s ∈ P c, 0 ≤ Tj.ix out s ∧ Tj.ix out s ≤ Tj.ix out c + 1
  part : ∀ c, q[i]? = some c → ∀ k s, k < j → (P c)[k]? = some s → 0 ≤ Tj.ix out s ∧ Tj.ix out s ≤ Tj.ix out c + 1
  sound : ∀ v ∈ q, ∃ (d g : Nat), Tj.ix out v = d ∧ goal g ∧ PathN E d v g
  goals : ∀ g, goal g → g < n ∧ Tj.ix out g = 0
  nd : q.Nodup
  bnd : ∀ (k v : Nat), q[k]? = some v → Tj.ix out v ≤ (k : Int)

theorem Bfs.skip {E P : Nat → List Nat} {n : Nat} {goal : Nat → Prop} {out : List Int} {q : List Nat} {i j c s : Nat} (h : Bfs E P n goal out q i j) (hc : q[i]? = some c) (hs : (P c)[j]? = some s) (h0 : 0 ≤ Tj.ix out s) : Bfs E P n goal out q i (j + 1) := by
  have hcn := ((h.mem c).1 (List.mem_of_getElem? hc)).1
  have hsn : s < n := ((h.pred s c hcn).1 (List.mem_of_getElem? hs)).1
  refine ⟨h.len, h.pred, h.mem, h.neg, h.srt, h.near, h.done, fun c' hc' k s' hk hs' => ?_, h.sound, h.goals, h.nd, h.bnd⟩
  rw [hc] at hc'
  cases hc'
  rcases Nat.lt_or_ge k j with h1 | h1
  · exact h.part c hc k s' h1 hs'
  · have : k = j := by omega
    subst this
    rw [hs] at hs'
    cases hs'
    exact ⟨h0, h.near c hc s ((h.mem s).2 ⟨hsn, h0⟩)⟩

theorem Bfs.add {E P : Nat → List Nat} {n : Nat} {goal : Nat → Prop} {out : List Int} {q : List Nat} {i j c s : Nat} (h : Bfs E P n goal out q i j) (hc : q[i]? = some c) (hs : (P c)[j]? = some s) (h0 : Tj.ix out s < 0) :
    Bfs E P n goal (out.set s (Tj.ix out c + 1)) (q ++ [s]) i (j + 1) := by
  have hcm := (h.mem c).1 (List.mem_of_getElem? hc)
  obtain ⟨hsn, hedge⟩ := (h.pred s c hcm.1).1 (List.mem_of_getElem? hs)
  have hix : ∀ v, Tj.ix (out.set s (Tj.ix out c + 1)) v = if v = s then Tj.ix out c + 1 else Tj.ix out v := fun v => Tj.ix_set _ _ _ _ (by rw [h.len]; exact hsn)
  have hsq : s ∉ q := fun hm => by have := ((h.mem s).1 hm).2; omega
  have hold : ∀ v ∈ q, Tj.ix (out.set s (Tj.ix out c + 1)) v = Tj.ix out v := fun v hv => by
    have hne : v ≠ s := fun e => hsq (by rw [← e]; exact hv)
    rw [hix, if_neg hne]
  have hnn : ∀ v, 0 ≤ Tj.ix out v → Tj.ix (out.set s (Tj.ix out c + 1)) v = Tj.ix out v := fun v hv => by rw [hix, if_neg (fun e => by subst e; omega)]
  have hcold := hold c (List.mem_of_getElem? hc)
  have hil : i < q.length := (List.getElem?_eq_some_iff.1 hc).1
  have hget : ∀ k, k < q.length → (q ++ [s])[k]? = q[k]? := fun k hk => List.getElem?_append_left hk
  refine ⟨by simp [h.len], h.pred, fun v => ?_, fun v hv hn => ?_, ?_, fun c' hc' u hu => ?_, fun k c' hk hc' s' hs' => ?_, fun c' hc' k s' hk hs' => ?_, fun v hv => ?_, fun g hg => ?_, ?_, fun k v hk => ?_⟩
  · rw [List.mem_append, List.mem_singleton, hix, h.mem v]
    by_cases hvs : v = s
    · subst hvs
      rw [if_pos rfl]
      exact ⟨fun _ => ⟨hsn, by omega⟩, fun _ => .inr rfl⟩
    · rw [if_neg hvs]
      exact ⟨fun h1 => h1.elim id (fun e => absurd e hvs), .inl⟩
  · rw [hix] at hn ⊢
    split at hn
    · omega
    · rename_i h1
      rw [if_neg h1]
      exact h.neg v hv hn
  · rw [List.pairwise_append]
    refine ⟨h.srt.imp_of_mem (fun {a b} ha hb hab => by rw [hold a ha, hold b hb]; exact hab), by simp, fun a ha b hb => ?_⟩
    rw [List.mem_singleton] at hb
    subst hb
    rw [hold a ha, hix, if_pos rfl]
    exact h.near c hc a ha
  · rw [hget i hil, hc] at hc'
    cases hc'
    rw [hcold]
    rcases List.mem_append.1 hu with hu | hu
    · rw [hold u hu]; exact h.near c hc u hu
    · rw [List.mem_singleton] at hu
      subst hu
      rw [hix, if_pos rfl]
      exact Int.le_refl _
  · rw [hget k (by omega)] at hc'
    have h1 := h.done k c' hk hc' s' hs'
    rw [hnn s' h1.1, hold c' (List.mem_of_getElem? hc')]
    exact h1
  · rw [hget i hil, hc] at hc'
    cases hc'
    rcases Nat.lt_or_ge k j with h1 | h1
    · have h2 := h.part c hc k s' h1 hs'
      rw [hnn s' h2.1, hcold]
      exact h2
    · have : k = j := by omega
      subst this
      rw [hs] at hs'
      cases hs'
      rw [hcold, hix, if_pos rfl]
      exact ⟨by omega, Int.le_refl _⟩
  · rcases List.mem_append.1 hv with hv | hv
    · rw [hold v hv]; exact h.sound v hv
    · rw [List.mem_singleton] at hv
      subst hv
      obtain ⟨d, g, hd, hg, hp⟩ := h.sound c (List.mem_of_getElem? hc)
      refine ⟨d + 1, g, ?_, hg, .step hedge hp⟩
      rw [hix, if_pos rfl, hd]
      rfl
  · have := h.goals g hg
    exact ⟨this.1, by rw [hnn g (by omega)]; exact this.2⟩
  · rw [List.nodup_append]
    refine ⟨h.nd, by simp, fun a ha b hb e => ?_⟩
    rw [List.mem_singleton] at hb
    subst hb
    exact hsq (e ▸ ha)
  · rcases Nat.lt_or_ge k q.length with h1 | h1
    · rw [hget k h1] at hk
      rw [hold v (List.mem_of_getElem? hk)]
      exact h.bnd k v hk
    · rw [List.getElem?_append_right h1] at hk
      have h2 : k - q.length = 0 := by
        rcases Nat.eq_zero_or_pos (k - q.length) with h3 | h3
        · exact h3
        · rw [List.getElem?_eq_none (by simp; omega)] at hk; cases hk
      rw [h2] at hk
      simp at hk
      subst hk
      rw [hix, if_pos rfl]
      have := h.bnd i c hc
      omega

theorem Bfs.next {E P : Nat → List Nat} {n : Nat} {goal : Nat → Prop} {out : List Int} {q : List Nat} {i j c : Nat} (h : Bfs E P n goal out q i j) (hc : q[i]? = some c) (hj : (P c).length ≤ j) : Bfs E P n goal out q (i + 1) 0 := by
  refine ⟨h.len, h.pred, h.mem, h.neg, h.srt, fun c' hc' u hu => ?_, fun k c' hk hc' s hs => ?_, fun _ _ k s hk => by omega, h.sound, h.goals, h.nd, h.bnd⟩
  · have h1 := h.near c hc u hu
    obtain ⟨hi1, hi2⟩ := List.getElem?_eq_some_iff.1 hc
    obtain ⟨hk1, hk2⟩ := List.getElem?_eq_some_iff.1 hc'
    have h2 := List.pairwise_iff_getElem.1 h.srt i (i + 1) hi1 hk1 (by omega)
    rw [hi2, hk2] at h2
    omega
  · rcases Nat.lt_or_ge k i with h1 | h1
    · exact h.done k c' h1 hc' s hs
    · have : k = i := by omega
      subst this
      rw [hc] at hc'
      cases hc'
      obtain ⟨m, hm1, hm2⟩ := List.getElem_of_mem hs
      exact h.part c hc m s (by omega) (by rw [← hm2]; exact List.getElem?_eq_getElem hm1)

theorem Bfs.finish {E P : Nat → List Nat} {n : Nat} {goal : Nat → Prop} {out : List Int} {q : List Nat} {i j : Nat} (h : Bfs E P n goal out q i j) (hi : q.length ≤ i) (hE : ∀ a b, a < n → b ∈ E a → b < n) : IsDist E n goal out := by
  have hkey : ∀ d v g, goal g → PathN E d v g → v < n → 0 ≤ Tj.ix out v ∧ Tj.ix out v ≤ d := by
    intro d v g hg hp
    induction hp with
    | refl a => intro _; have := (h.goals a hg).2; rw [this]; exact ⟨Int.le_refl _, by simp⟩
    | step e _ ih =>
      intro hv
      have hb := hE _ _ hv e
      have h1 := ih hg hb
      obtain ⟨k, hk1, hk2⟩ := List.getElem_of_mem ((h.mem _).2 ⟨hb, h1.1⟩)
      have h2 := h.done k _ (by omega) (by rw [← hk2]; exact List.getElem?_eq_getElem hk1) _ ((h.pred _ _ hb).2 ⟨hv, e⟩)
      exact ⟨h2.1, by have := h2.2; push_cast; omega⟩
  refine ⟨h.len, fun v hv hn => ⟨h.neg v hv hn, fun d g hg hp => ?_⟩, fun v hv h0 => h.sound v ((h.mem v).2 ⟨hv, h0⟩), fun v d g hv _ hg hp => (hkey d v g hg hp hv).2, fun v hv => ?_⟩
  · have := (hkey d v g hg hp hv).1
    omega
  · rcases (show Tj.ix out v < 0 ∨ 0 ≤ Tj.ix out v by omega) with h0 | h0
    · omega
    · obtain ⟨k, hk1, hk2⟩ := List.getElem_of_mem ((h.mem v).2 ⟨hv, h0⟩)
      have h1 := h.bnd k v (by rw [← hk2]; exact List.getElem?_eq_getElem hk1)
      have h2 := h.nd.length_le_of_subset (l₂ := List.range n) (fun v hv => List.mem_range.2 ((h.mem v).1 hv).1)
      rw [List.length_range] at h2
      omega

end Go.Proofs.Ytknfdpkfomlckaa
