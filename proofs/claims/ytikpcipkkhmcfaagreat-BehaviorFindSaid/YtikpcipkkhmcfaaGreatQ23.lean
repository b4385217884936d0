/- Texts C0, VK. -/
import Derived.Test.YtikpcipkkhmcfaaGreatQ22
import Derived.Test.YtikpcipkkhmcfaaGreatQ09
/- Plain: the targets of an event, the states behind an event. -/
namespace Go.Proofs.YtikpcipkkhmcfaaGreat
open Go.RowKit

def Aim (l : Lts) (e : Int) (s : Nat) : List Nat := ((l.getD s []).filter fun a => decide (a.1 = e)).map fun a => a.2.toNat
theorem mem_aim {l : Lts} {e : Int} {s : Nat} {row : List Arc} (h : l[s]? = some row) {t : Nat} : t ∈ Aim l e s ↔ ∃ a ∈ row, a.1 = e ∧ a.2.toNat = t := by
  have : l.getD s [] = row := by rw [List.getD_eq_getElem?_getD, h]; rfl
  simp only [Aim, this, List.mem_map, List.mem_filter, decide_eq_true_eq, and_assoc]
theorem aim_edge {l : Lts} (hv : VLts l) {e : Int} : ∀ a b, a < l.length → b ∈ Aim l e a → b < l.length := by
  intro a b ha hb
  obtain ⟨row, hrow⟩ : ∃ row, l[a]? = some row := ⟨_, List.getElem?_eq_getElem ha⟩
  obtain ⟨y, hy, _, rfl⟩ := (mem_aim hrow).1 hb
  obtain ⟨j, hj⟩ := List.getElem?_of_mem hy
  have := (hv.row row (List.mem_of_getElem? hrow)).ok y.1 y.2 (List.mem_of_getElem? hj)
  omega
structure IsAim (l : Lts) (e : Int) (fr vs : List Nat) : Prop where
  asc : vs.Pairwise (· < ·)
  mem : ∀ v, v ∈ vs ↔ ∃ s ∈ fr, v ∈ Aim l e s
theorem IsAim.unique {l : Lts} {e : Int} {fr a b : List Nat} (ha : IsAim l e fr a) (hb : IsAim l e fr b) : a = b :=
  asc_unique ha.asc hb.asc (fun v => (ha.mem v).trans (hb.mem v).symm)
def IsAft (l : Lts) (fr : List Nat) (e : Int) (vs : List Nat) : Prop :=
  (e = 0 ∧ IsReach (Esel l true) fr vs) ∨ (e ≠ 0 ∧ ∃ c m, IsReach (Esel l true) fr c ∧ IsAim l e c m ∧ IsReach (Esel l true) m vs)
theorem IsAft.unique {l : Lts} {e : Int} {fr a b : List Nat} (ha : IsAft l fr e a) (hb : IsAft l fr e b) : a = b := by
  rcases ha with ⟨h0, ha⟩ | ⟨h0, c, m, ha1, ha2, ha3⟩
  · rcases hb with ⟨_, hb⟩ | ⟨h1, _⟩
    · exact ha.unique hb
    · exact absurd h0 h1
  · rcases hb with ⟨h1, _⟩ | ⟨_, c', m', hb1, hb2, hb3⟩
    · exact absurd h1 h0
    · obtain rfl := ha1.unique hb1
      obtain rfl := ha2.unique hb2
      exact ha3.unique hb3

/-- What is marked is what is kept. -/
structure Mk (n r : Nat) (seen : List Int) (out : List Nat) : Prop where
  len : seen.length = n
  mem : ∀ v, v ∈ out ↔ v < n ∧ Tj.ix seen v = r
  nd : out.Nodup
  le : ∀ v, v < n → Tj.ix seen v ≤ r
theorem Mk.start {n r : Nat} {seen : List Int} (hl : seen.length = n) (hle : ∀ v, v < n → Tj.ix seen v < r) : Mk n r seen [] :=
  ⟨hl, fun v => ⟨(fun h => by cases h), (fun h => by have := hle v h.1; omega)⟩, List.nodup_nil, (fun v hv => by have := hle v hv; omega)⟩
theorem Mk.few {n r : Nat} {seen : List Int} {out : List Nat} (h : Mk n r seen out) : out.length ≤ n := by
  have := h.nd.length_le_of_subset (l₂ := List.range n) (fun v hv => List.mem_range.2 ((h.mem v).1 hv).1)
  simpa using this
theorem Mk.add {n r : Nat} {seen : List Int} {out : List Nat} {v : Nat} (h : Mk n r seen out) (hv : v < n) (hne : Tj.ix seen v ≠ r) : Mk n r (seen.set v (r : Int)) (out ++ [v]) := by
  have hvl : v < seen.length := by rw [h.len]; exact hv
  have hnew : v ∉ out := fun hm => hne ((h.mem v).1 hm).2
  have hix : ∀ u, Tj.ix (seen.set v (r : Int)) u = if u = v then (r : Int) else Tj.ix seen u := fun u => Tj.ix_set _ _ _ _ hvl
  refine ⟨by rw [List.length_set]; exact h.len, fun u => ?_, ?_, fun u hu => ?_⟩
  · rw [List.mem_append, h.mem u, List.mem_singleton, hix u]
    by_cases huv : u = v
    · subst huv; simp [hv]
    · simp [huv]
  · rw [List.nodup_append]
    exact ⟨h.nd, by simp, fun a ha b hb => by rw [List.mem_singleton] at hb; subst hb; intro e; exact hnew (e ▸ ha)⟩
  · rw [hix u]
    split
    · exact Int.le_refl _
    · exact h.le u hu

/-- All targets of the first i states; and of the first j arcs of the next. -/
def TD (l : Lts) (e : Int) (fr : List Nat) (i : Nat) (out : List Nat) : Prop := ∀ v, v ∈ out ↔ ∃ s ∈ fr.take i, v ∈ Aim l e s
def TP (l : Lts) (e : Int) (fr : List Nat) (i : Nat) (row : List Arc) (j : Nat) (out : List Nat) : Prop := ∀ v, v ∈ out ↔ (∃ s ∈ fr.take i, v ∈ Aim l e s) ∨ ∃ y ∈ row.take j, y.1 = e ∧ y.2.toNat = v
theorem TD.start (l : Lts) (e : Int) (fr : List Nat) : TD l e fr 0 [] := fun v => by simp
theorem TD.part {l : Lts} {e : Int} {fr out : List Nat} {i : Nat} (h : TD l e fr i out) (row : List Arc) : TP l e fr i row 0 out := fun v => by rw [h v]; simp
theorem TP.skip {l : Lts} {e d : Int} {fr out : List Nat} {i j m : Nat} {row : List Arc} (h : TP l e fr i row j out) (hj : row[j]? = some (d, (m : Int))) (hd : d ≠ e) : TP l e fr i row (j + 1) out := fun v => by
  rw [h v, List.take_add_one, hj, Option.toList_some]
  constructor
  · rintro (h1 | ⟨y, hy, h2⟩)
    · exact .inl h1
    · exact .inr ⟨y, List.mem_append_left _ hy, h2⟩
  · rintro (h1 | ⟨y, hy, h2⟩)
    · exact .inl h1
    · rcases List.mem_append.1 hy with hy | hy
      · exact .inr ⟨y, hy, h2⟩
      · rw [List.mem_singleton] at hy
        subst hy
        exact absurd h2.1 hd
theorem TP.add {l : Lts} {e : Int} {fr out out2 : List Nat} {i j m : Nat} {row : List Arc} (h : TP l e fr i row j out) (hj : row[j]? = some (e, (m : Int))) (ho : ∀ v, v ∈ out2 ↔ v = m ∨ v ∈ out) : TP l e fr i row (j + 1) out2 := fun v => by
  rw [ho v, h v, List.take_add_one, hj, Option.toList_some]
  constructor
  · rintro (rfl | h1 | ⟨y, hy, h2⟩)
    · exact .inr ⟨_, List.mem_append_right _ (List.mem_singleton.2 rfl), rfl, by simp⟩
    · exact .inl h1
    · exact .inr ⟨y, List.mem_append_left _ hy, h2⟩
  · rintro (h1 | ⟨y, hy, h2⟩)
    · exact .inr (.inl h1)
    · rcases List.mem_append.1 hy with hy | hy
      · exact .inr (.inr ⟨y, hy, h2⟩)
      · rw [List.mem_singleton] at hy
        subst hy
        have := h2.2
        simp at this
        exact .inl this.symm
theorem TP.next {l : Lts} {e : Int} {fr out : List Nat} {i j s : Nat} {row : List Arc} (h : TP l e fr i row j out) (hj : row.length ≤ j) (hs : fr[i]? = some s) (hr : l[s]? = some row) : TD l e fr (i + 1) out := fun v => by
  rw [h v, List.take_of_length_le hj, List.take_add_one, hs, Option.toList_some]
  constructor
  · rintro (⟨u, hu, h1⟩ | h1)
    · exact ⟨u, List.mem_append_left _ hu, h1⟩
    · exact ⟨s, List.mem_append_right _ (List.mem_singleton.2 rfl), (mem_aim hr).2 h1⟩
  · rintro ⟨u, hu, h1⟩
    rcases List.mem_append.1 hu with hu | hu
    · exact .inl ⟨u, hu, h1⟩
    · rw [List.mem_singleton] at hu
      subst hu
      exact .inr ((mem_aim hr).1 h1)
theorem TD.all {l : Lts} {e : Int} {fr out : List Nat} {i : Nat} (h : TD l e fr i out) (hi : fr.length ≤ i) : ∀ v, v ∈ out ↔ ∃ s ∈ fr, v ∈ Aim l e s := fun v => by rw [h v, List.take_of_length_le hi]

end Go.Proofs.YtikpcipkkhmcfaaGreat

/- Plain: what the entries of all traces ask of a transition system. No program in sight. -/
namespace Go.Proofs.YtikpcipkkhmcfaaGreat.Beh
open Go.Proofs.YtikpcipkkhmcfaaGreat Go.Proofs.YtikpcipkkhmcfaaGreat.Ind

open Classical in
/-- The states that are reached silently. -/
noncomputable def rchN (l : Lts) (fr : List Nat) : List Nat := if h : ∃ vs, IsReach (Esel l true) fr vs then Classical.choose h else []
theorem rch_eq {l : Lts} {fr vs : List Nat} (h : IsReach (Esel l true) fr vs) : rchN l fr = vs := by
  have hx : ∃ vs, IsReach (Esel l true) fr vs := ⟨vs, h⟩
  rw [rchN, dif_pos hx]
  exact (Classical.choose_spec hx).unique h
open Classical in
/-- The states behind an event, from a closed set. -/
noncomputable def aftN (l : Lts) (s : List Nat) (e : Int) : List Nat := if h : ∃ m, IsAim l e s m then rchN l (Classical.choose h) else []
theorem aft_eq {l : Lts} {s m vs : List Nat} {e : Int} (h1 : IsAim l e s m) (h2 : IsReach (Esel l true) m vs) : aftN l s e = vs := by
  have hx : ∃ m, IsAim l e s m := ⟨m, h1⟩
  rw [aftN, dif_pos hx, (Classical.choose_spec hx).unique h1]
  exact rch_eq h2
/-- A set that silent arcs do not leave. -/
def Closed (l : Lts) (s : List Nat) : Prop := IsReach (Esel l true) s s
theorem closed_of {l : Lts} {fr vs : List Nat} (h : IsReach (Esel l true) fr vs) : Closed l vs := by
  refine ⟨h.asc, fun v => ⟨fun hv => ⟨v, hv, .refl v⟩, ?_⟩⟩
  rintro ⟨s, hs, hp⟩
  obtain ⟨q, hq, hq2⟩ := (h.mem s).1 hs
  exact (h.mem v).2 ⟨q, hq, hq2.trans hp⟩
/-- The visible events of a row; of a set, ascending. -/
def visR (row : List Arc) : List Int := (row.filter fun a => decide (a.1 ≠ 0)).map (·.1)
def visL (l : Lts) (s : List Nat) : List Int := s.flatMap fun v => visR (l.getD v [])
def evN (l : Lts) (s : List Nat) : List Int := setG (fun a b : Int => decide (a < b)) (visL l s)
theorem mem_visR {row : List Arc} {e : Int} : e ∈ visR row ↔ e ≠ 0 ∧ ∃ a ∈ row, a.1 = e := by
  simp only [visR, List.mem_map, List.mem_filter, decide_eq_true_eq]
  constructor
  · rintro ⟨a, ⟨h1, h2⟩, rfl⟩
    exact ⟨h2, a, h1, rfl⟩
  · rintro ⟨h1, a, h2, rfl⟩
    exact ⟨a, ⟨h2, h1⟩, rfl⟩
theorem mem_evN {l : Lts} {s : List Nat} {e : Int} : e ∈ evN l s ↔ ∃ v ∈ s, e ∈ visR (l.getD v []) := by
  rw [evN, mem_setG sto_int, visL, List.mem_flatMap]
theorem asc_evN (l : Lts) (s : List Nat) : (evN l s).Pairwise (· < ·) := (setG_asc sto_int (visL l s)).imp (fun h => by simpa using h)
theorem row_ok {l : Lts} (hv : VLts l) (v : Nat) : VRow l.length (l.getD v []) := by
  rw [List.getD_eq_getElem?_getD]
  cases h : l[v]? with
  | none => exact ⟨by simp, rfl, by simp⟩
  | some row => exact hv.row row (List.mem_of_getElem? h)
theorem vis_evN {l : Lts} (hv : VLts l) (s : List Nat) : ∀ e ∈ evN l s, 1 ≤ e ∧ e ≤ 1025 := by
  intro e he
  obtain ⟨v, _, h⟩ := mem_evN.1 he
  obtain ⟨h0, ⟨a, t⟩, ha, rfl⟩ := mem_visR.1 h
  have := (row_ok hv v).ok a t ha
  simp only at h0 ⊢
  omega
/-- The acceptances of the states of a set, in their order. -/
def accN (l : Lts) (s : List Nat) : List (List Int) := s.filterMap fun v => if (accF (l.getD v [])).2 = true then some (accF (l.getD v [])).1 else none
open Classical in
noncomputable def divB (l : Lts) (s : List Nat) : Bool := decide (∃ v ∈ s, Div (Esel l true) v)
theorem divB_iff {l : Lts} {s : List Nat} : divB l s = true ↔ ∃ v ∈ s, Div (Esel l true) v := by simp [divB]
theorem mem_refEvs {row : List Arc} {e : Int} : e ∈ refEvs row ↔ ∃ a ∈ row, a.1 = e := by rw [← hasB_iff, has_refEvs]
theorem asc_refEvs (row : List Arc) : (refEvs row).Pairwise (· < ·) := by
  have h : ∀ (row : List Arc) (acc : List Int), acc.Pairwise (· < ·) → (row.foldl (fun acc a => addI acc a.1) acc).Pairwise (· < ·) := by
    intro row
    induction row with
    | nil => intro acc h; exact h
    | cons a r ih => intro acc h; exact ih _ (addI_asc acc a.1 h)
  exact h row [] List.Pairwise.nil
theorem ascB_of_pair : ∀ {l : List Int}, l.Pairwise (· < ·) → Ind.ascB l = true
  | [], _ => rfl
  | [_], _ => rfl
  | a :: b :: r, h => by
    have h1 := List.pairwise_cons.1 h
    rw [Ind.ascB, decide_eq_true (h1.1 b (by simp)), ascB_of_pair h1.2]
    rfl
theorem accF_rise {n : Nat} {row : List Arc} (h : VRow n row) : Ind.ascB (accF row).1 = true := by
  unfold accF
  split
  · rfl
  · split
    · rw [evs_eq h.asc]
      exact ascB_of_pair (asc_refEvs row)
    · rfl
theorem accF_vis {n : Nat} {row : List Arc} (h : VRow n row) : visB (accF row).1 = true := by
  rw [visB_iff]
  unfold accF
  split
  · intro e he
    rw [List.mem_singleton.1 he]
    exact ⟨by omega, by omega⟩
  · split
    · rename_i hst
      intro e he
      rw [evs_eq h.asc] at he
      obtain ⟨⟨a, t⟩, ha, rfl⟩ := mem_refEvs.1 he
      have h1 := h.ok a t ha
      have h2 : hasB (refEvs row) 0 = false := by rw [stable_eq h, hst]; rfl
      have h3 : a ≠ 0 := by
        rintro rfl
        have : hasB (refEvs row) 0 = true := (has_refEvs row 0).2 ⟨(0, t), ha, rfl⟩
        rw [h2] at this
        cases this
      simp only
      omega
    · intro e he
      cases he
theorem accN_of {l : Lts} {s : List Nat} {a : List Int} (h : a ∈ accN l s) : ∃ v, a = (accF (l.getD v [])).1 := by
  obtain ⟨v, _, h⟩ := List.mem_filterMap.1 h
  split at h
  · exact ⟨v, by simpa using h.symm⟩
  · cases h
noncomputable def wkL (l : Lts) : Wk := ⟨evN l, aftN l, fun t s => (t, minL (accN l s), divB l s), fun _ _ => rfl⟩
theorem wkL_ok {l : Lts} (hv : VLts l) : WkOk (wkL l) :=
  ⟨asc_evN l, vis_evN hv, fun _ _ => anti_minL _, fun _ s a ha => by
    obtain ⟨v, rfl⟩ := accN_of (mem_minL ha)
    exact accF_vis (row_ok hv v)⟩
theorem minL_congr {l r : List (List Int)} (h : ∀ x, x ∈ l ↔ x ∈ r) : minL l = minL r := by
  have hall : l.all Ind.ascB = r.all Ind.ascB := by
    rw [Bool.eq_iff_iff, List.all_eq_true, List.all_eq_true]
    exact ⟨fun h1 x hx => h1 x ((h x).2 hx), fun h1 x hx => h1 x ((h x).1 hx)⟩
  unfold minL
  rw [hall, minS_congr h]
/-- What Of answers: none where the entries are too many. -/
noncomputable def ofL (l : Lts) (n : Nat) : Option St := ofB (wkL l) n (rchN l [0])
theorem addL_app {k : Wk} {set : List Nat} {t : List Int} : ∀ (a b : List Int) (st : St), addL k set t (a ++ b) st = (addL k set t a st).bind (addL k set t b)
  | [], b, st => by simp [addL]
  | e :: r, b, st => by
    by_cases hf : st.length = 16384
    · rw [List.cons_append, addL_full hf, addL_full hf]; rfl
    · rw [List.cons_append, addL_cons hf, addL_cons hf]
      exact addL_app r b _
end Go.Proofs.YtikpcipkkhmcfaaGreat.Beh
