/- Plain law: the breadth-first search of a Walker finds what is reached. No program. -/
import Derived.Test.YtknfdpkfomlckaaAC
namespace Go.Proofs.Ytknfdpkfomlckaa

structure Wrk (E : Nat → List Nat) (n : Nat) (fr : List Nat) (r : Nat) (seen : List Int) (out : List Nat) (i j : Nat) : Prop where
  len : seen.length = n
  mem : ∀ v, v ∈ out ↔ v < n ∧ Tj.ix seen v = r
  nd : out.Nodup
  snd : ∀ v ∈ out, ∃ s ∈ fr, Path E s v
  done : ∀ k c, k < i → out[k]? = some c → ∀ t ∈ E c, t ∈ out
  part : ∀ c, out[i]? = some c → ∀ t ∈ (E c).take j, t ∈ out
  le : ∀ v, v < n → Tj.ix seen v ≤ r

theorem Wrk.start {E : Nat → List Nat} {n : Nat} {fr : List Nat} {r : Nat} {seen : List Int} (hl : seen.length = n) (hle : ∀ v, v < n → Tj.ix seen v < r) : Wrk E n fr r seen [] 0 0 :=
  ⟨hl, fun v => ⟨(fun h => by cases h), (fun h => by have := hle v h.1; omega)⟩, List.nodup_nil, (fun v h => by cases h), (fun k c hk => absurd hk (Nat.not_lt_zero _)), (fun c h => by cases h), (fun v hv => by have := hle v hv; omega)⟩
theorem Wrk.few {E : Nat → List Nat} {n : Nat} {fr : List Nat} {r : Nat} {seen : List Int} {out : List Nat} {i j : Nat} (h : Wrk E n fr r seen out i j) : out.length ≤ n := by
  have := h.nd.length_le_of_subset (l₂ := List.range n) (fun v hv => List.mem_range.2 ((h.mem v).1 hv).1)
  simpa using this
/-- One more state. -/
theorem Wrk.add {E : Nat → List Nat} {n : Nat} {fr : List Nat} {r : Nat} {seen : List Int} {out : List Nat} {i j v : Nat} (h : Wrk E n fr r seen out i j) (hv : v < n) (hne : Tj.ix seen v ≠ r) (hp : ∃ s ∈ fr, Path E s v) (hi : i < out.length ∨ (i = 0 ∧ j = 0)) :
    Wrk E n fr r (seen.set v (r : Int)) (out ++ [v]) i j := by
  have hvl : v < seen.length := by rw [h.len]; exact hv
  have hnew : v ∉ out := fun hm => hne ((h.mem v).1 hm).2
  have hix : ∀ u, Tj.ix (seen.set v (r : Int)) u = if u = v then (r : Int) else Tj.ix seen u := fun u => Tj.ix_set _ _ _ _ hvl
  refine ⟨by rw [List.length_set]; exact h.len, fun u => ?_, ?_, fun u hu => ?_, fun k c hk hc t ht => ?_, fun c hc t ht => ?_, fun u hu => ?_⟩
  · rw [List.mem_append, h.mem u, List.mem_singleton, hix u]
    by_cases huv : u = v
    · subst huv; simp [hv]
    · simp [huv]
  · rw [List.nodup_append]
    exact ⟨h.nd, by simp, fun a ha b hb => by rw [List.mem_singleton] at hb; subst hb; intro e; exact hnew (e ▸ ha)⟩
  · rcases List.mem_append.1 hu with hu | hu
    · exact h.snd u hu
    · rw [List.mem_singleton] at hu; rw [hu]; exact hp
  · rcases hi with hi | hi
    · rw [List.getElem?_append_left (by omega)] at hc
      exact List.mem_append_left _ (h.done k c hk hc t ht)
    · omega
  · rcases hi with hi | hi
    · rw [List.getElem?_append_left hi] at hc
      exact List.mem_append_left _ (h.part c hc t ht)
    · rw [hi.2, List.take_zero] at ht
      cases ht
  · rw [hix u]
    split
    · exact Int.le_refl _
    · exact h.le u hu
theorem Wrk.mark {E : Nat → List Nat} {n : Nat} {fr : List Nat} {r : Nat} {seen : List Int} {out : List Nat} {i j c t : Nat} (h : Wrk E n fr r seen out i j) (hc : out[i]? = some c) (ht : (E c)[j]? = some t) (hm : t ∈ out) : Wrk E n fr r seen out i (j + 1) :=
  ⟨h.len, h.mem, h.nd, h.snd, h.done, fun c' hc' u hu => by
    rw [hc] at hc'
    cases hc'
    rw [List.take_add_one, ht, Option.toList_some] at hu
    rcases List.mem_append.1 hu with hu | hu
    · exact h.part c hc u hu
    · rw [List.mem_singleton] at hu; rw [hu]; exact hm, h.le⟩
theorem Wrk.next {E : Nat → List Nat} {n : Nat} {fr : List Nat} {r : Nat} {seen : List Int} {out : List Nat} {i j c : Nat} (h : Wrk E n fr r seen out i j) (hc : out[i]? = some c) (hj : (E c).length ≤ j) : Wrk E n fr r seen out (i + 1) 0 :=
  ⟨h.len, h.mem, h.nd, h.snd, fun k c' hk hc' t ht => by
    by_cases hki : k < i
    · exact h.done k c' hki hc' t ht
    · obtain rfl : k = i := by omega
      rw [hc] at hc'
      cases hc'
      exact h.part c hc t (by rw [List.take_of_length_le hj]; exact ht), (fun c' _ t ht => by rw [List.take_zero] at ht; cases ht), h.le⟩
theorem Wrk.finish {E : Nat → List Nat} {n : Nat} {fr : List Nat} {r : Nat} {seen : List Int} {out : List Nat} {i j : Nat} (h : Wrk E n fr r seen out i j) (hi : out.length ≤ i) (hf : ∀ s ∈ fr, s ∈ out) (v : Nat) : v ∈ out ↔ ∃ s ∈ fr, Path E s v := by
  refine ⟨h.snd v, ?_⟩
  rintro ⟨s, hs, hp⟩
  exact hp.closed (P := fun v => v ∈ out) (fun a b ha hb => by
    obtain ⟨k, hk1, hk2⟩ := List.getElem_of_mem ha
    exact h.done k a (by omega) (by rw [← hk2]; exact List.getElem?_eq_getElem hk1) b hb) (hf s hs)

end Go.Proofs.Ytknfdpkfomlckaa
