/- Plain: the targets of an event, the states behind an event. -/
import Derived.Test.YtknfdpkfomlckaaBA
namespace Go.Proofs.Ytknfdpkfomlckaa
open Go.RowKit

def Aim (l : Lts) (e : Int) (s : Nat) : List Nat := ((l.getD s []).filter fun a => decide (a.1 = e)).map fun a => a.2.toNat
theorem mem_aim {l : Lts} {e : Int} {s : Nat} {row : List Arc} (h : l[s]? = some row) {t : Nat} : t ∈ Aim l e s ↔ ∃ a ∈ row, a.1 = e ∧ a.2.toNat = t := by
  have : l.getD s [] = row := by rw [List.getD_eq_getElem?_getD, h]; rfl
  simp only [Aim, this, List.mem_map, List.mem_filter, decide_eq_true_eq, and_assoc]
theorem aim_edge {l : Lts} (hv : VLts l) {e : Int} : ∀ a b, a < l.length → b ∈ Aim l e a → b < l.length := by
  intro a b ha hb
  obtain ⟨row, hrow⟩ : ∃ row, l[a]? = some row := ⟨_, List.getElem?_eq_getElem ha⟩
  obtain ⟨y, hy, _, rfl⟩ := (mem_aim hrow).1 hb
  obtain ⟨j, hj⟩ := List.getElem?_of_mem hy
  have := (hv.row row (List.mem_of_getElem? hrow)).ok y.1 y.2 (List.mem_of_getElem? hj)
  omega
structure IsAim (l : Lts) (e : Int) (fr vs : List Nat) : Prop where
  asc : vs.Pairwise (· < ·)
  mem : ∀ v, v ∈ vs ↔ ∃ s ∈ fr, v ∈ Aim l e s
theorem IsAim.unique {l : Lts} {e : Int} {fr a b : List Nat} (ha : IsAim l e fr a) (hb : IsAim l e fr b) : a = b :=
  asc_unique ha.asc hb.asc (fun v => (ha.mem v).trans (hb.mem v).symm)
def IsAft (l : Lts) (fr : List Nat) (e : Int) (vs : List Nat) : Prop :=
  (e = 0 ∧ IsReach (Esel l true) fr vs) ∨ (e ≠ 0 ∧ ∃ c m, IsReach (Esel l true) fr c ∧ IsAim l e c m ∧ IsReach (Esel l true) m vs)
theorem IsAft.unique {l : Lts} {e : Int} {fr a b : List Nat} (ha : IsAft l fr e a) (hb : IsAft l fr e b) : a = b := by
  rcases ha with ⟨h0, ha⟩ | ⟨h0, c, m, ha1, ha2, ha3⟩
  · rcases hb with ⟨_, hb⟩ | ⟨h1, _⟩
    · exact ha.unique hb
    · exact absurd h0 h1
  · rcases hb with ⟨h1, _⟩ | ⟨_, c', m', hb1, hb2, hb3⟩
    · exact absurd h1 h0
    · obtain rfl := ha1.unique hb1
      obtain rfl := ha2.unique hb2
      exact ha3.unique hb3

/-- What is marked is what is kept. -/
structure Mk (n r : Nat) (seen : List Int) (out : List Nat) : Prop where
  len : seen.length = n
  mem : ∀ v, v ∈ out ↔ v < n ∧ Tj.ix seen v = r
  nd : out.Nodup
  le : ∀ v, v < n → Tj.ix seen v ≤ r
theorem Mk.start {n r : Nat} {seen : List Int} (hl : seen.length = n) (hle : ∀ v, v < n → Tj.ix seen v < r) : Mk n r seen [] :=
  ⟨hl, fun v => ⟨(fun h => by cases h), (fun h => by have := hle v h.1; omega)⟩, List.nodup_nil, (fun v hv => by have := hle v hv; omega)⟩
theorem Mk.few {n r : Nat} {seen : List Int} {out : List Nat} (h : Mk n r seen out) : out.length ≤ n := by
  have := h.nd.length_le_of_subset (l₂ := List.range n) (fun v hv => List.mem_range.2 ((h.mem v).1 hv).1)
  simpa using this
theorem Mk.add {n r : Nat} {seen : List Int} {out : List Nat} {v : Nat} (h : Mk n r seen out) (hv : v < n) (hne : Tj.ix seen v ≠ r) : Mk n r (seen.set v (r : Int)) (out ++ [v]) := by
  have hvl : v < seen.length := by rw [h.len]; exact hv
  have hnew : v ∉ out := fun hm => hne ((h.mem v).1 hm).2
  have hix : ∀ u, Tj.ix (seen.set v (r : Int)) u = if u = v then (r : Int) else Tj.ix seen u := fun u => Tj.ix_set _ _ _ _ hvl
  refine ⟨by rw [List.length_set]; exact h.len, fun u => ?_, ?_, fun u hu => ?_⟩
  · rw [List.mem_append, h.mem u, List.mem_singleton, hix u]
    by_cases huv : u = v
    · subst huv; simp [hv]
    · simp [huv]
  · rw [List.nodup_append]
    exact ⟨h.nd, by simp, fun a ha b hb => by rw [List.mem_singleton] at hb; subst hb; intro e; exact hnew (e ▸ ha)⟩
  · rw [hix u]
    split
    · exact Int.le_refl _
    · exact h.le u hu

/-- All targets of the first i states; and of the first j arcs of the next. -/
def TD (l : Lts) (e : Int) (fr : List Nat) (i : Nat) (out : List Nat) : Prop := ∀ v, v ∈ out ↔ ∃ s ∈ fr.take i, v ∈ Aim l e s
def TP (l : Lts) (e : Int) (fr : List Nat) (i : Nat) (row : List Arc) (j : Nat) (out : List Nat) : Prop := ∀ v, v ∈ out ↔ (∃ s ∈ fr.take i, v ∈ Aim l e s) ∨ ∃ y ∈ row.take j, y.1 = e ∧ y.2.toNat = v
theorem TD.start (l : Lts) (e : Int) (fr : List Nat) : TD l e fr 0 [] := fun v => by simp
theorem TD.part {l : Lts} {e : Int} {fr out : List Nat} {i : Nat} (h : TD l e fr i out) (row : List Arc) : TP l e fr i row 0 out := fun v => by rw [h v]; simp
theorem TP.skip {l : Lts} {e d : Int} {fr out : List Nat} {i j m : Nat} {row : List Arc} (h : TP l e fr i row j out) (hj : row[j]? = some (d, (m : Int))) (hd : d ≠ e) : TP l e fr i row (j + 1) out := fun v => by
  rw [h v, List.take_add_one, hj, Option.toList_some]
  constructor
  · rintro (h1 | ⟨y, hy, h2⟩)
    · exact .inl h1
    · exact .inr ⟨y, List.mem_append_left _ hy, h2⟩
  · rintro (h1 | ⟨y, hy, h2⟩)
    · exact .inl h1
    · rcases List.mem_append.1 hy with hy | hy
      · exact .inr ⟨y, hy, h2⟩
      · rw [List.mem_singleton] at hy
        subst hy
        exact absurd h2.1 hd
theorem TP.add {l : Lts} {e : Int} {fr out out2 : List Nat} {i j m : Nat} {row : List Arc} (h : TP l e fr i row j out) (hj : row[j]? = some (e, (m : Int))) (ho : ∀ v, v ∈ out2 ↔ v = m ∨ v ∈ out) : TP l e fr i row (j + 1) out2 := fun v => by
  rw [ho v, h v, List.take_add_one, hj, Option.toList_some]
  constructor
  · rintro (rfl | h1 | ⟨y, hy, h2⟩)
    · exact .inr ⟨_, List.mem_append_right _ (List.mem_singleton.2 rfl), rfl, by simp⟩
    · exact .inl h1
    · exact .inr ⟨y, List.mem_append_left _ hy, h2⟩
  · rintro (h1 | ⟨y, hy, h2⟩)
    · exact .inr (.inl h1)
    · rcases List.mem_append.1 hy with hy | hy
      · exact .inr (.inr ⟨y, hy, h2⟩)
      · rw [List.mem_singleton] at hy
        subst hy
        have := h2.2
        simp at this
        exact .inl this.symm
theorem TP.next {l : Lts} {e : Int} {fr out : List Nat} {i j s : Nat} {row : List Arc} (h : TP l e fr i row j out) (hj : row.length ≤ j) (hs : fr[i]? = some s) (hr : l[s]? = some row) : TD l e fr (i + 1) out := fun v => by
  rw [h v, List.take_of_length_le hj, List.take_add_one, hs, Option.toList_some]
  constructor
  · rintro (⟨u, hu, h1⟩ | h1)
    · exact ⟨u, List.mem_append_left _ hu, h1⟩
    · exact ⟨s, List.mem_append_right _ (List.mem_singleton.2 rfl), (mem_aim hr).2 h1⟩
  · rintro ⟨u, hu, h1⟩
    rcases List.mem_append.1 hu with hu | hu
    · exact .inl ⟨u, hu, h1⟩
    · rw [List.mem_singleton] at hu
      subst hu
      exact .inr ((mem_aim hr).1 h1)
theorem TD.all {l : Lts} {e : Int} {fr out : List Nat} {i : Nat} (h : TD l e fr i out) (hi : fr.length ≤ i) : ∀ v, v ∈ out ↔ ∃ s ∈ fr, v ∈ Aim l e s := fun v => by rw [h v, List.take_of_length_le hi]

end Go.Proofs.Ytknfdpkfomlckaa
