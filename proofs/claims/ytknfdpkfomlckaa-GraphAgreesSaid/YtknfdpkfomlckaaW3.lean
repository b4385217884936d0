/- The search for components in memory: its states at the head and in the middle of a round. -/
import Derived.Test.YtknfdpkfomlckaaW1
namespace Go.Proofs.Ytknfdpkfomlckaa
open Go.RowKit

theorem esel_get {l : Lts} {silent : Bool} {s j : Nat} {row : List Arc} {e t : Int} (hs : l[s]? = some row) (hj : (sel row silent)[j]? = some (e, t)) : (((sel (l.getD s []) silent).map fun a => a.2.toNat))[j]? = some t.toNat := by
  have : l.getD s [] = row := by rw [List.getD_eq_getElem?_getD, hs]; rfl
  simp only [this, List.getElem?_map, hj]
  rfl
def Esel (l : Lts) (silent : Bool) (s : Nat) : List Nat := (sel (l.getD s []) silent).map fun a => a.2.toNat
theorem esel_len {l : Lts} {silent : Bool} {s : Nat} {row : List Arc} (hs : l[s]? = some row) : (Esel l silent s).length = (sel row silent).length := by
  have : l.getD s [] = row := by rw [List.getD_eq_getElem?_getD, hs]; rfl
  simp only [Esel, this, List.length_map]
theorem esel_edge {l : Lts} (hv : VLts l) (silent : Bool) : ∀ a b, a < l.length → b ∈ Esel l silent a → b < l.length := by
  intro a b ha hb
  obtain ⟨row, hrow⟩ : ∃ row, l[a]? = some row := ⟨_, List.getElem?_eq_getElem ha⟩
  have : l.getD a [] = row := by rw [List.getD_eq_getElem?_getD, hrow]; rfl
  simp only [Esel, this, List.mem_map] at hb
  obtain ⟨⟨e, t⟩, hm, rfl⟩ := hb
  obtain ⟨k, hk⟩ := sel_take row silent
  rw [hk] at hm
  have := (hv.row row (List.mem_of_getElem? hrow)).ok e t (List.mem_of_mem_take hm)
  omega
theorem sel_ok {l : Lts} (hv : VLts l) {s j : Nat} {row : List Arc} {silent : Bool} {e t : Int} (hs : l[s]? = some row) (hj : (sel row silent)[j]? = some (e, t)) : ∃ m : Nat, t = (m : Int) ∧ m < l.length := by
  obtain ⟨k, hk⟩ := sel_take row silent
  rw [hk] at hj
  have := (hv.row row (List.mem_of_getElem? hs)).ok e t (List.mem_of_mem_take (List.mem_of_getElem? hj))
  exact ⟨t.toNat, by omega, by omega⟩

def c0 (l : List Int) : Nat := l.countP fun x => decide (x = 0)
theorem c0_set {l : List Int} {t : Nat} {x : Int} (h : l[t]? = some 0) (hx : x ≠ 0) : c0 (l.set t x) + 1 = c0 l := by
  induction l generalizing t with
  | nil => simp at h
  | cons a r ih =>
    cases t with
    | zero =>
      simp at h
      subst h
      simp [c0, hx]
    | succ t =>
      have := ih (t := t) (by simpa using h)
      simp only [c0, List.set_cons_succ, List.countP_cons] at this ⊢
      omega
theorem c0_rep (n : Nat) : c0 (List.replicate n 0) = n := by
  induction n with
  | zero => rfl
  | succ n ih => simp only [c0, List.replicate_succ, List.countP_cons] at ih ⊢; simp [ih]
theorem c0_pos {l : List Int} {t : Nat} (h : l[t]? = some 0) : 1 ≤ c0 l := by
  have := c0_set h (show (1 : Int) ≠ 0 by decide)
  omega

/-- The path in memory. -/
def memP (p : List (Nat × Nat)) (fr : Option Nat) : List (Nat × Nat) := p.reverse ++ fr.toList.map fun t => (t, 0)

/-- At the head of the search. -/
structure Srch (E : Nat → List Nat) (B n : Nat) (wr : World) (gi gl go : Nat) (vp vo : Value) (st : Tj.St) (fr : Option Nat) : Prop where
  rep : TRep B n wr gi gl go vp vo st.idx st.low st.out st.opn (memP st.path fr)
  inv : Tj.Inv E n st fr
  nx : ∀ q ∈ st.path, 1 ≤ q.2 ∧ q.2 ≤ (E q.1).length
  cnt : st.cnt + c0 st.idx = n

theorem Srch.empty {E : Nat → List Nat} {B n : Nat} {wr : World} {gi gl go : Nat} {vp vo : Value} {st : Tj.St} {fr : Option Nat} (h : Srch E B n wr gi gl go vp vo st fr) (hp : st.path = []) : st.opn = [] := by
  refine List.eq_nil_iff_forall_not_mem.2 (fun v hv => ?_)
  obtain ⟨p, ⟨q, hq, _⟩, _⟩ := h.inv.first v hv
  rw [hp] at hq
  cases hq

theorem Srch.top {E : Nat → List Nat} {B n : Nat} {wr : World} {gi gl go : Nat} {vp vo : Value} {st : Tj.St} {fr : Option Nat} (h : Srch E B n wr gi gl go vp vo st fr) :
    (memP st.path fr = [] ∧ st.path = [] ∧ fr = none) ∨ ∃ pm s k, memP st.path fr = pm ++ [(s, k)] ∧ s < n ∧ ((fr = some s ∧ k = 0 ∧ st.path.reverse = pm ∧ Tj.ix st.idx s = 0) ∨ (fr = none ∧ 1 ≤ k ∧ ∃ r, st.path = (s, k) :: r ∧ r.reverse = pm)) := by
  cases fr with
  | some t =>
    have := h.inv.fr t rfl
    exact .inr ⟨st.path.reverse, t, 0, rfl, this.1, .inl ⟨rfl, rfl, rfl, this.2⟩⟩
  | none =>
    cases hp : st.path with
    | nil => exact .inl ⟨rfl, rfl, rfl⟩
    | cons q r =>
      obtain ⟨s, k⟩ := q
      have hs : s ∈ st.opn := by
        have := h.inv.path
        exact this.opn (s, k) (by rw [hp]; exact List.mem_cons_self ..)
      exact .inr ⟨r.reverse, s, k, by simp [memP], ((h.inv.opn s).1 hs).1, .inr ⟨rfl, (h.nx (s, k) (by rw [hp]; exact List.mem_cons_self ..)).1, r, rfl, rfl⟩⟩

/-- In the middle of a round: the state s is visited. -/
structure Mid (E : Nat → List Nat) (B n : Nat) (wr : World) (gi gl go : Nat) (vp vo : Value) (st : Tj.St) (s k : Nat) (r : List (Nat × Nat)) : Prop where
  path : st.path = (s, k) :: r
  rep : TRep B n wr gi gl go vp vo st.idx st.low st.out st.opn (r.reverse ++ [(s, k)])
  inv : Tj.Inv E n st none
  nx : ∀ q ∈ r, 1 ≤ q.2 ∧ q.2 ≤ (E q.1).length
  nk : k ≤ (E s).length
  cnt : st.cnt + c0 st.idx = n

theorem Mid.sopn {E : Nat → List Nat} {B n : Nat} {wr : World} {gi gl go : Nat} {vp vo : Value} {st : Tj.St} {s k : Nat} {r : List (Nat × Nat)} (h : Mid E B n wr gi gl go vp vo st s k r) : s ∈ st.opn :=
  h.inv.path.opn (s, k) (by rw [h.path]; exact List.mem_cons_self ..)
theorem Mid.sn {E : Nat → List Nat} {B n : Nat} {wr : World} {gi gl go : Nat} {vp vo : Value} {st : Tj.St} {s k : Nat} {r : List (Nat × Nat)} (h : Mid E B n wr gi gl go vp vo st s k r) : s < n := ((h.inv.opn s).1 h.sopn).1

/-- The head of a round whose last state was visited before. -/
theorem Srch.mid {E : Nat → List Nat} {B n : Nat} {wr : World} {gi gl go : Nat} {vp vo : Value} {st : Tj.St} {s k : Nat} {r : List (Nat × Nat)} (h : Srch E B n wr gi gl go vp vo st none) (hp : st.path = (s, k) :: r) : Mid E B n wr gi gl go vp vo st s k r :=
  ⟨hp, by have := h.rep; rw [hp] at this; simpa [memP] using this, h.inv, fun q hq => h.nx q (by rw [hp]; exact List.mem_cons_of_mem _ hq), (h.nx (s, k) (by rw [hp]; exact List.mem_cons_self ..)).2, h.cnt⟩

theorem ix_some {l : List Int} {n v : Nat} (hl : l.length = n) (hv : v < n) : l[v]? = some (Tj.ix l v) := by
  unfold Tj.ix
  rw [List.getD_eq_getElem?_getD, List.getElem?_eq_getElem (by omega)]
  rfl

/-- The last state is visited now. -/
theorem Srch.visit {E : Nat → List Nat} {B n : Nat} {wr w' : World} {gi gl go : Nat} {vp vo vo' : Value} {st : Tj.St} {t : Nat} (h : Srch E B n wr gi gl go vp vo st (some t))
    (hrep : TRep B n w' gi gl go vp vo' (st.idx.set t (st.cnt + 1 : Int)) (st.low.set t (st.cnt + 1 : Int)) st.out (st.opn ++ [t]) (st.path.reverse ++ [(t, 0)])) :
    Mid E B n w' gi gl go vp vo' { st with idx := st.idx.set t (st.cnt + 1 : Int), low := st.low.set t (st.cnt + 1 : Int), cnt := st.cnt + 1, opn := st.opn ++ [t], path := (t, 0) :: st.path } t 0 st.path := by
  obtain ⟨h1, h2⟩ := h.inv.fr t rfl
  refine ⟨rfl, hrep, h.inv.visit, h.nx, Nat.zero_le _, ?_⟩
  have h3 := ix_some h.inv.li h1
  rw [h2] at h3
  have h4 := c0_set h3 (show (st.cnt + 1 : Int) ≠ 0 by omega)
  have := h.cnt
  show st.cnt + 1 + c0 (st.idx.set t (st.cnt + 1 : Int)) = n
  omega

theorem Mid.push {E : Nat → List Nat} {B n : Nat} {wr w' : World} {gi gl go : Nat} {vp vp' vo : Value} {st : Tj.St} {s k t : Nat} {r : List (Nat × Nat)} (h : Mid E B n wr gi gl go vp vo st s k r) (ht : (E s)[k]? = some t) (h0 : Tj.ix st.idx t = 0)
    (hrep : TRep B n w' gi gl go vp' vo st.idx st.low st.out st.opn ((r.reverse ++ [(s, k + 1)]) ++ [(t, 0)])) : Srch E B n w' gi gl go vp' vo { st with path := (s, k + 1) :: r } (some t) := by
  refine ⟨by simpa [memP] using hrep, h.inv.push h.path ht h0, fun q hq => ?_, h.cnt⟩
  rcases List.mem_cons.1 hq with rfl | hq
  · have := (List.getElem?_eq_some_iff.1 ht).1
    exact ⟨by simp, by simp only; omega⟩
  · exact h.nx q hq
theorem Mid.skip {E : Nat → List Nat} {B n : Nat} {wr w' : World} {gi gl go : Nat} {vp vo : Value} {st : Tj.St} {s k t : Nat} {r : List (Nat × Nat)} (h : Mid E B n wr gi gl go vp vo st s k r) (ht : (E s)[k]? = some t) (h1 : 0 ≤ Tj.ix st.out t)
    (hrep : TRep B n w' gi gl go vp vo st.idx st.low st.out st.opn (r.reverse ++ [(s, k + 1)])) : Mid E B n w' gi gl go vp vo { st with path := (s, k + 1) :: r } s (k + 1) r :=
  ⟨rfl, hrep, h.inv.skip h.path ht h1, h.nx, by have := (List.getElem?_eq_some_iff.1 ht).1; omega, h.cnt⟩
theorem Mid.least {E : Nat → List Nat} {B n : Nat} {wr w' : World} {gi gl go : Nat} {vp vo : Value} {st : Tj.St} {s k t : Nat} {r : List (Nat × Nat)} (h : Mid E B n wr gi gl go vp vo st s k r) (ht : (E s)[k]? = some t) (h0 : 0 < Tj.ix st.idx t) (h1 : Tj.ix st.out t < 0)
    (x : Int) (hx : x = min (Tj.ix st.low s) (Tj.ix st.idx t)) (hrep : TRep B n w' gi gl go vp vo st.idx (st.low.set s x) st.out st.opn (r.reverse ++ [(s, k + 1)])) : Mid E B n w' gi gl go vp vo { st with low := st.low.set s x, path := (s, k + 1) :: r } s (k + 1) r :=
  ⟨rfl, hrep, h.inv.least h.path ht h0 h1 x hx, h.nx, by have := (List.getElem?_eq_some_iff.1 ht).1; omega, h.cnt⟩

/-! ### the least of a list -/
theorem foldl_min_le : ∀ (l : List Int) (a : Int), l.foldl min a ≤ a ∧ (∀ x ∈ l, l.foldl min a ≤ x) ∧ (l.foldl min a = a ∨ l.foldl min a ∈ l)
  | [], a => ⟨Int.le_refl _, by simp, .inl rfl⟩
  | b :: r, a => by
    have ih := foldl_min_le r (min a b)
    simp only [List.foldl_cons]
    refine ⟨by omega, fun x hx => ?_, ?_⟩
    · rcases List.mem_cons.1 hx with rfl | hx
      · omega
      · exact ih.2.1 x hx
    · rcases ih.2.2 with h | h
      · rcases (show min a b = a ∨ min a b = b by omega) with h2 | h2
        · exact .inl (by rw [h, h2])
        · exact .inr (by rw [h, h2]; exact List.mem_cons_self ..)
      · exact .inr (List.mem_cons_of_mem _ h)
theorem minOf_spec {l : List Int} (h : l ≠ []) : Lib.minOf l ∈ l ∧ ∀ x ∈ l, Lib.minOf l ≤ x := by
  cases l with
  | nil => exact absurd rfl h
  | cons a r =>
    have := foldl_min_le (a :: r) a
    unfold Lib.minOf
    simp only [List.headD_cons]
    refine ⟨?_, this.2.1⟩
    rcases this.2.2 with h1 | h1
    · rw [h1]; exact List.mem_cons_self ..
    · exact h1
theorem setAll_ix (out : List Int) (l : List Nat) (v : Nat) (L : Int) (hv : v < out.length) : Tj.ix (setAll out (natI l) L) v = if v ∈ l then L else Tj.ix out v := by
  induction l generalizing out with
  | nil => rfl
  | cons a r ih =>
    have e : setAll out (natI (a :: r)) L = setAll (out.set a L) (natI r) L := by simp [setAll, natI]
    rw [e, ih (out.set a L) (by simpa using hv)]
    by_cases h1 : v ∈ r
    · rw [if_pos h1, if_pos (List.mem_cons_of_mem _ h1)]
    · rw [if_neg h1]
      by_cases h2 : v = a
      · subst h2
        rw [if_pos (List.mem_cons_self ..), Tj.ix_set _ _ _ _ hv, if_pos rfl]
      · rw [if_neg (by simp [h1, h2])]
        unfold Tj.ix
        rw [List.getD_eq_getElem?_getD, List.getElem?_set_ne (fun e => h2 e.symm), ← List.getD_eq_getElem?_getD]

/-- The component of the last state is closed. -/
theorem Mid.close {E : Nat → List Nat} {B n : Nat} {wr w' : World} {gi gl go : Nat} {vp vo vp' vo' : Value} {st : Tj.St} {s k p : Nat} {r : List (Nat × Nat)} (h : Mid E B n wr gi gl go vp vo st s k r) (hk : (E s).length ≤ k) (heq : Tj.ix st.low s = Tj.ix st.idx s) (hs : st.opn[p]? = some s)
    (hrep : TRep B n w' gi gl go vp' vo' st.idx st.low (setAll st.out ((natI st.opn).drop p) (Lib.minOf ((natI st.opn).drop p))) (st.opn.take p) r.reverse) :
    Srch E B n w' gi gl go vp' vo' { st with out := setAll st.out ((natI st.opn).drop p) (Lib.minOf ((natI st.opn).drop p)), opn := st.opn.take p, path := r } none := by
  have hd : (natI st.opn).drop p = natI (st.opn.drop p) := by simp [natI, List.map_drop]
  have hne : natI (st.opn.drop p) ≠ [] := by
    obtain ⟨hi, _⟩ := List.getElem?_eq_some_iff.1 hs
    intro e
    have := congrArg List.length e
    rw [natI_len, List.length_drop] at this
    simp at this
    omega
  have hm := minOf_spec hne
  rw [hd] at hrep ⊢
  refine ⟨by simpa [memP] using hrep, h.inv.close h.path hk heq hs _ (Lib.minOf (natI (st.opn.drop p))) (by rw [setAll_len, h.inv.lo]) (fun v hv => setAll_ix _ _ _ _ (by rw [h.inv.lo]; exact hv)) ?_ (fun m hm' => ?_), h.nx, h.cnt⟩
  · have h1 := hm.1
    simp only [natI, List.mem_map] at h1
    obtain ⟨m, hm1, hm2⟩ := h1
    exact ⟨m, hm1, hm2.symm⟩
  · exact hm.2 m (by simp only [natI, List.mem_map]; exact ⟨m, hm', rfl⟩)

theorem set_same {l : List Int} {n v : Nat} (hl : l.length = n) (hv : v < n) : l.set v (Tj.ix l v) = l := by
  refine List.ext_getElem? (fun i => ?_)
  rw [List.getElem?_set]
  split
  · rename_i e
    subst e
    rw [if_pos (by omega), ix_some hl hv]
  · rfl

end Go.Proofs.Ytknfdpkfomlckaa
