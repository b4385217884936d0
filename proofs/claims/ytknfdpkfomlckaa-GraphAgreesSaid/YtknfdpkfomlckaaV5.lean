/- Plain law: components and distances say which states are divergent. No program. -/
import Derived.Test.YtknfdpkfomlckaaY1
import Derived.Test.YtknfdpkfomlckaaV4
namespace Go.Proofs.Ytknfdpkfomlckaa

/-- The state lies on a cycle of at least one arc. -/
def OnC (E : Nat → List Nat) (s : Nat) : Prop := ∃ t ∈ E s, Path E t s
def Div (E : Nat → List Nat) (s : Nat) : Prop := ∃ u, Path E s u ∧ OnC E u
structure IsDiv (E : Nat → List Nat) (n : Nat) (bs : List Bool) : Prop where
  len : bs.length = n
  iff : ∀ v, v < n → (bs[v]? = some true ↔ Div E v)

theorem IsDiv.unique {E : Nat → List Nat} {n : Nat} {a b : List Bool} (ha : IsDiv E n a) (hb : IsDiv E n b) : a = b := by
  refine List.ext_getElem (by rw [ha.len, hb.len]) (fun v h1 h2 => ?_)
  have hv : v < n := by rw [← ha.len]; exact h1
  have h3 := ha.iff v hv
  have h4 := hb.iff v hv
  rw [List.getElem?_eq_getElem h1, Option.some.injEq] at h3
  rw [List.getElem?_eq_getElem h2, Option.some.injEq] at h4
  exact Bool.eq_iff_iff.2 (h3.trans h4.symm)

theorem PathN.path {E : Nat → List Nat} {d a b : Nat} (h : PathN E d a b) : Path E a b := by
  induction h with
  | refl a => exact .refl a
  | step e _ ih => exact .step e ih
theorem Path.pathN {E : Nat → List Nat} {a b : Nat} (h : Path E a b) : ∃ d, PathN E d a b := by
  induction h with
  | refl a => exact ⟨0, .refl a⟩
  | step e _ ih => obtain ⟨d, hd⟩ := ih; exact ⟨d + 1, .step e hd⟩
theorem Path.lt {E : Nat → List Nat} {n a b : Nat} (hE : ∀ a b, a < n → b ∈ E a → b < n) (h : Path E a b) (ha : a < n) : b < n := h.closed (P := fun v => v < n) hE ha

theorem loopF_iff {E : Nat → List Nat} {n : Nat} {comp : List Int} (hc : Tj.IsComp E n comp) (hE : ∀ a b, a < n → b ∈ E a → b < n) {s : Nat} (hs : s < n) : loopF E comp s = true ↔ OnC E s := by
  simp only [loopF, List.any_eq_true, decide_eq_true_eq, OnC]
  refine ⟨fun ⟨t, ht, he⟩ => ⟨t, ht, ?_⟩, fun ⟨t, ht, hp⟩ => ⟨t, ht, ?_⟩⟩
  · obtain ⟨m, h1, _, h2, _⟩ := hc.own t (hE s t hs ht)
    obtain ⟨k, h3, _, _, h4⟩ := hc.own s hs
    have : m = k := by omega
    subst this
    exact h2.trans h4
  · obtain ⟨m, h1, _, h2, h2'⟩ := hc.own t (hE s t hs ht)
    obtain ⟨k, h3, _, h4, h4'⟩ := hc.own s hs
    have h5 := hc.least t k (hE s t hs ht) (hp.trans h4) (h4'.trans (Path.one ht))
    have h6 := hc.least s m hs ((Path.one ht).trans h2) (h2'.trans hp)
    omega

theorem loops_get {E : Nat → List Nat} {n : Nat} {comp : List Int} (hc : Tj.IsComp E n comp) (hE : ∀ a b, a < n → b ∈ E a → b < n) (v : Nat) : ((List.range n).map (loopF E comp))[v]? = some true ↔ v < n ∧ OnC E v := by
  by_cases hv : v < n
  · rw [List.getElem?_map, List.getElem?_range hv, Option.map_some, Option.some.injEq, loopF_iff hc hE hv]
    exact ⟨fun h => ⟨hv, h⟩, fun h => h.2⟩
  · rw [List.getElem?_eq_none (by simp; omega)]
    simp [hv]

theorem IsDist.congr {E : Nat → List Nat} {n : Nat} {g g' : Nat → Prop} {out : List Int} (h : IsDist E n g out) (hg : ∀ v, g v ↔ g' v) : IsDist E n g' out :=
  ⟨h.len, fun v hv hn => ⟨(h.none v hv hn).1, fun d u hu hp => (h.none v hv hn).2 d u ((hg u).2 hu) hp⟩, fun v hv h0 => by
    obtain ⟨d, u, h1, h2, h3⟩ := h.some v hv h0
    exact ⟨d, u, h1, (hg u).1 h2, h3⟩, fun v d u hv h0 hu hp => h.least v d u hv h0 ((hg u).2 hu) hp, h.bnd⟩

theorem isDist_loops {E : Nat → List Nat} {n : Nat} {comp out : List Int} (hc : Tj.IsComp E n comp) (hE : ∀ a b, a < n → b ∈ E a → b < n) (h : IsDist E n (fun v => ((List.range n).map (loopF E comp))[v]? = some true) out) : IsDist E n (fun v => v < n ∧ OnC E v) out := h.congr (loops_get hc hE)

theorem div_iff {E : Nat → List Nat} {n : Nat} {out : List Int} (hE : ∀ a b, a < n → b ∈ E a → b < n) (h : IsDist E n (fun v => v < n ∧ OnC E v) out) {v : Nat} (hv : v < n) : 0 ≤ Tj.ix out v ↔ Div E v := by
  constructor
  · intro h0
    obtain ⟨d, g, _, h2, h3⟩ := h.some v hv h0
    exact ⟨g, h3.path, h2.2⟩
  · rintro ⟨u, hp, ho⟩
    obtain ⟨d, hd⟩ := hp.pathN
    rcases (show Tj.ix out v < 0 ∨ 0 ≤ Tj.ix out v by omega) with h1 | h1
    · exact absurd hd ((h.none v hv h1).2 d u ⟨hp.lt hE hv, ho⟩)
    · exact h1

/-- The row of Divergent. -/
def divF (out : List Int) (v : Nat) : Bool := decide (0 ≤ Tj.ix out v)
theorem isDiv_of {E : Nat → List Nat} {n : Nat} {out : List Int} (hE : ∀ a b, a < n → b ∈ E a → b < n) (h : IsDist E n (fun v => v < n ∧ OnC E v) out) : IsDiv E n ((List.range n).map (divF out)) :=
  ⟨by simp, fun v hv => by
    rw [List.getElem?_map, List.getElem?_range hv, Option.map_some, Option.some.injEq, divF, decide_eq_true_eq]
    exact div_iff hE h hv⟩

end Go.Proofs.Ytknfdpkfomlckaa
