/- Merged text: V5, V6, V7 of the notes. -/
import Derived.Test.YtknfdpkfomlckaaAB
import Derived.Test.YtknfdpkfomlckaaA9
import Derived.Test.YtknfdpkfomlckaaA6
/- Plain law: components and distances say which states are divergent. No program. -/
namespace Go.Proofs.Ytknfdpkfomlckaa

/-- The state lies on a cycle of at least one arc. -/
def OnC (E : Nat → List Nat) (s : Nat) : Prop := ∃ t ∈ E s, Path E t s
def Div (E : Nat → List Nat) (s : Nat) : Prop := ∃ u, Path E s u ∧ OnC E u
structure IsDiv (E : Nat → List Nat) (n : Nat) (bs : List Bool) : Prop where
  len : bs.length = n
  iff : ∀ v, v < n → (bs[v]? = some true ↔ Div E v)

theorem IsDiv.unique {E : Nat → List Nat} {n : Nat} {a b : List Bool} (ha : IsDiv E n a) (hb : IsDiv E n b) : a = b := by
  refine List.ext_getElem (by rw [ha.len, hb.len]) (fun v h1 h2 => ?_)
  have hv : v < n := by rw [← ha.len]; exact h1
  have h3 := ha.iff v hv
  have h4 := hb.iff v hv
  rw [List.getElem?_eq_getElem h1, Option.some.injEq] at h3
  rw [List.getElem?_eq_getElem h2, Option.some.injEq] at h4
  exact Bool.eq_iff_iff.2 (h3.trans h4.symm)

theorem PathN.path {E : Nat → List Nat} {d a b : Nat} (h : PathN E d a b) : Path E a b := by
  induction h with
  | refl a => exact .refl a
  | step e _ ih => exact .step e ih
theorem Path.pathN {E : Nat → List Nat} {a b : Nat} (h : Path E a b) : ∃ d, PathN E d a b := by
  induction h with
  | refl a => exact ⟨0, .refl a⟩
  | step e _ ih => obtain ⟨d, hd⟩ := ih; exact ⟨d + 1, .step e hd⟩
theorem Path.lt {E : Nat → List Nat} {n a b : Nat} (hE : ∀ a b, a < n → b ∈ E a → b < n) (h : Path E a b) (ha : a < n) : b < n := h.closed (P := fun v => v < n) hE ha

theorem loopF_iff {E : Nat → List Nat} {n : Nat} {comp : List Int} (hc : Tj.IsComp E n comp) (hE : ∀ a b, a < n → b ∈ E a → b < n) {s : Nat} (hs : s < n) : loopF E comp s = true ↔ OnC E s := by
  simp only [loopF, List.any_eq_true, decide_eq_true_eq, OnC]
  refine ⟨fun ⟨t, ht, he⟩ => ⟨t, ht, ?_⟩, fun ⟨t, ht, hp⟩ => ⟨t, ht, ?_⟩⟩
  · obtain ⟨m, h1, _, h2, _⟩ := hc.own t (hE s t hs ht)
    obtain ⟨k, h3, _, _, h4⟩ := hc.own s hs
    have : m = k := by omega
    subst this
    exact h2.trans h4
  · obtain ⟨m, h1, _, h2, h2'⟩ := hc.own t (hE s t hs ht)
    obtain ⟨k, h3, _, h4, h4'⟩ := hc.own s hs
    have h5 := hc.least t k (hE s t hs ht) (hp.trans h4) (h4'.trans (Path.one ht))
    have h6 := hc.least s m hs ((Path.one ht).trans h2) (h2'.trans hp)
    omega

theorem loops_get {E : Nat → List Nat} {n : Nat} {comp : List Int} (hc : Tj.IsComp E n comp) (hE : ∀ a b, a < n → b ∈ E a → b < n) (v : Nat) : ((List.range n).map (loopF E comp))[v]? = some true ↔ v < n ∧ OnC E v := by
  by_cases hv : v < n
  · rw [List.getElem?_map, List.getElem?_range hv, Option.map_some, Option.some.injEq, loopF_iff hc hE hv]
    exact ⟨fun h => ⟨hv, h⟩, fun h => h.2⟩
  · rw [List.getElem?_eq_none (by simp; omega)]
    simp [hv]

theorem IsDist.congr {E : Nat → List Nat} {n : Nat} {g g' : Nat → Prop} {out : List Int} (h : IsDist E n g out) (hg : ∀ v, g v ↔ g' v) : IsDist E n g' out :=
  ⟨h.len, fun v hv hn => ⟨(h.none v hv hn).1, fun d u hu hp => (h.none v hv hn).2 d u ((hg u).2 hu) hp⟩, fun v hv h0 => by
    obtain ⟨d, u, h1, h2, h3⟩ := h.some v hv h0
    exact ⟨d, u, h1, (hg u).1 h2, h3⟩, fun v d u hv h0 hu hp => h.least v d u hv h0 ((hg u).2 hu) hp, h.bnd⟩

theorem isDist_loops {E : Nat → List Nat} {n : Nat} {comp out : List Int} (hc : Tj.IsComp E n comp) (hE : ∀ a b, a < n → b ∈ E a → b < n) (h : IsDist E n (fun v => ((List.range n).map (loopF E comp))[v]? = some true) out) : IsDist E n (fun v => v < n ∧ OnC E v) out := h.congr (loops_get hc hE)

theorem div_iff {E : Nat → List Nat} {n : Nat} {out : List Int} (hE : ∀ a b, a < n → b ∈ E a → b < n) (h : IsDist E n (fun v => v < n ∧ OnC E v) out) {v : Nat} (hv : v < n) : 0 ≤ Tj.ix out v ↔ Div E v := by
  constructor
  · intro h0
    obtain ⟨d, g, _, h2, h3⟩ := h.some v hv h0
    exact ⟨g, h3.path, h2.2⟩
  · rintro ⟨u, hp, ho⟩
    obtain ⟨d, hd⟩ := hp.pathN
    rcases (show Tj.ix out v < 0 ∨ 0 ≤ Tj.ix out v by omega) with h1 | h1
    · exact absurd hd ((h.none v hv h1).2 d u ⟨hp.lt hE hv, ho⟩)
    · exact h1

/-- The row of Divergent. -/
def divF (out : List Int) (v : Nat) : Bool := decide (0 ≤ Tj.ix out v)
theorem isDiv_of {E : Nat → List Nat} {n : Nat} {out : List Int} (hE : ∀ a b, a < n → b ∈ E a → b < n) (h : IsDist E n (fun v => v < n ∧ OnC E v) out) : IsDiv E n ((List.range n).map (divF out)) :=
  ⟨by simp, fun v hv => by
    rw [List.getElem?_map, List.getElem?_range hv, Option.map_some, Option.some.injEq, divF, decide_eq_true_eq]
    exact div_iff hE h hv⟩

end Go.Proofs.Ytknfdpkfomlckaa

/- Plain law: following distances. No program. -/
namespace Go.Proofs.Ytknfdpkfomlckaa

theorem followL_some {d : List Int} {x : Int} : ∀ {ts : List Nat}, (∃ b ∈ ts, Tj.ix d b = x) → ∃ t : Nat, t ∈ ts ∧ followL d x ts = (t : Int) ∧ Tj.ix d t = x
  | [], h => by obtain ⟨b, hb, _⟩ := h; cases hb
  | t :: r, h => by
    by_cases h1 : Tj.ix d t = x
    · exact ⟨t, List.mem_cons_self .., by rw [followL, if_pos h1], h1⟩
    · obtain ⟨b, hb, hbx⟩ := h
      rcases List.mem_cons.1 hb with rfl | hb
      · exact absurd hbx h1
      · obtain ⟨u, h2, h3, h4⟩ := followL_some (ts := r) ⟨b, hb, hbx⟩
        exact ⟨u, List.mem_cons_of_mem _ h2, by rw [followL, if_neg h1, h3], h4⟩

/-- The next state on the way to a goal. -/
def nxt (E : Nat → List Nat) (d : List Int) (s : Nat) : Nat := (followL d (Tj.ix d s - 1) (E s)).toNat
def endN (E : Nat → List Nat) (d : List Int) : Nat → Nat → Nat
  | 0, s => s
  | k + 1, s => endN E d k (nxt E d s)
def walkN (E : Nat → List Nat) (d : List Int) : Nat → Nat → List Nat
  | 0, _ => []
  | k + 1, s => s :: walkN E d k (nxt E d s)
theorem endN_snoc (E : Nat → List Nat) (d : List Int) : ∀ (k s : Nat), endN E d (k + 1) s = nxt E d (endN E d k s)
  | 0, _ => rfl
  | k + 1, s => by rw [endN, endN_snoc E d k, endN]
theorem walkN_snoc (E : Nat → List Nat) (d : List Int) : ∀ (k s : Nat), walkN E d (k + 1) s = walkN E d k s ++ [endN E d k s]
  | 0, _ => rfl
  | k + 1, s => by rw [walkN, walkN_snoc E d k, walkN, endN, List.cons_append]
theorem walkN_len (E : Nat → List Nat) (d : List Int) : ∀ (k s : Nat), (walkN E d k s).length = k
  | 0, _ => rfl
  | k + 1, s => by rw [walkN, List.length_cons, walkN_len E d k]

theorem dist_next {E : Nat → List Nat} {n : Nat} {g : Nat → Prop} {d : List Int} (hE : ∀ a b, a < n → b ∈ E a → b < n) (h : IsDist E n g d) {s : Nat} (hs : s < n) (h0 : 0 < Tj.ix d s) : ∃ b ∈ E s, Tj.ix d b = Tj.ix d s - 1 := by
  obtain ⟨k, u, hk, hu, hp⟩ := h.some s hs (by omega)
  cases hp with
  | refl a => omega
  | step e hp =>
    rename_i k b
    have hb := hE _ _ hs e
    rcases (show Tj.ix d b < 0 ∨ 0 ≤ Tj.ix d b by omega) with h1 | h1
    · exact absurd hp ((h.none b hb h1).2 _ u hu)
    · have h2 := h.least b _ u hb h1 hu hp
      obtain ⟨k', u', hk', hu', hp'⟩ := h.some b hb h1
      have h3 := h.least s (k' + 1) u' hs (by omega) hu' (.step e hp')
      exact ⟨b, e, by omega⟩
theorem nxt_ok {E : Nat → List Nat} {n : Nat} {g : Nat → Prop} {d : List Int} (hE : ∀ a b, a < n → b ∈ E a → b < n) (h : IsDist E n g d) {s : Nat} (hs : s < n) (h0 : 0 < Tj.ix d s) : nxt E d s < n ∧ nxt E d s ∈ E s ∧ Tj.ix d (nxt E d s) = Tj.ix d s - 1 ∧ followL d (Tj.ix d s - 1) (E s) = (nxt E d s : Nat) := by
  obtain ⟨t, h1, h2, h3⟩ := followL_some (dist_next hE h hs h0)
  have : nxt E d s = t := by rw [nxt, h2]; rfl
  rw [this]
  exact ⟨hE _ _ hs h1, h1, h3, h2⟩
theorem endN_ok {E : Nat → List Nat} {n : Nat} {g : Nat → Prop} {d : List Int} (hE : ∀ a b, a < n → b ∈ E a → b < n) (h : IsDist E n g d) : ∀ (j s : Nat), s < n → (j : Int) ≤ Tj.ix d s → endN E d j s < n ∧ Tj.ix d (endN E d j s) = Tj.ix d s - j
  | 0, s, hs, _ => ⟨hs, by simp [endN]⟩
  | j + 1, s, hs, hj => by
    have h1 := nxt_ok hE h hs (by omega)
    have h2 := endN_ok hE h j (nxt E d s) h1.1 (by rw [h1.2.2.1]; omega)
    exact ⟨h2.1, by rw [endN, h2.2, h1.2.2.1]; push_cast; omega⟩
theorem dist_goal {E : Nat → List Nat} {n : Nat} {g : Nat → Prop} {d : List Int} (h : IsDist E n g d) {s : Nat} (hs : s < n) : Tj.ix d s = 0 ↔ g s := by
  constructor
  · intro h0
    obtain ⟨k, u, hk, hu, hp⟩ := h.some s hs (by omega)
    obtain rfl : k = 0 := by omega
    cases hp
    exact hu
  · intro hg
    rcases (show Tj.ix d s < 0 ∨ 0 ≤ Tj.ix d s by omega) with h1 | h1
    · exact absurd (.refl s) ((h.none s hs h1).2 0 s hg)
    · have := h.least s 0 s hs h1 hg (.refl s)
      omega

/-- The least distance that is not -1, or -1. -/
def leastF (d : List Int) (ts : List Nat) : Int := ts.foldl (fun acc t => if 0 ≤ Tj.ix d t ∧ (acc < 0 ∨ Tj.ix d t < acc) then Tj.ix d t else acc) (-1)
theorem leastF_snoc (d : List Int) (ts : List Nat) (t : Nat) : leastF d (ts ++ [t]) = if 0 ≤ Tj.ix d t ∧ (leastF d ts < 0 ∨ Tj.ix d t < leastF d ts) then Tj.ix d t else leastF d ts := by
  unfold leastF
  rw [List.foldl_append]
  rfl
theorem leastF_spec (d : List Int) (ts : List Nat) : (leastF d ts = -1 ∧ ∀ t ∈ ts, Tj.ix d t < 0) ∨ (0 ≤ leastF d ts ∧ (∃ t ∈ ts, Tj.ix d t = leastF d ts) ∧ ∀ t ∈ ts, 0 ≤ Tj.ix d t → leastF d ts ≤ Tj.ix d t) := by
  suffices h : ∀ k, k ≤ ts.length → (leastF d (ts.take k) = -1 ∧ ∀ t ∈ ts.take k, Tj.ix d t < 0) ∨ (0 ≤ leastF d (ts.take k) ∧ (∃ t ∈ ts.take k, Tj.ix d t = leastF d (ts.take k)) ∧ ∀ t ∈ ts.take k, 0 ≤ Tj.ix d t → leastF d (ts.take k) ≤ Tj.ix d t) by
    have := h ts.length (Nat.le_refl _)
    rwa [List.take_length] at this
  intro k
  induction k with
  | zero => intro _; left; simp [leastF]
  | succ k ih =>
    intro hk
    have hk' : k < ts.length := hk
    rw [List.take_add_one, List.getElem?_eq_getElem hk', Option.toList_some, leastF_snoc]
    generalize ts[k] = x
    rcases ih (by omega) with ⟨h1, h2⟩ | ⟨h1, ⟨t, h2, h3⟩, h4⟩
    · rw [h1]
      by_cases hx : 0 ≤ Tj.ix d x
      · rw [if_pos ⟨hx, .inl (by omega)⟩]
        right
        refine ⟨hx, ⟨x, by simp, rfl⟩, fun u hu h0 => ?_⟩
        rcases List.mem_append.1 hu with hu | hu
        · have := h2 u hu; omega
        · rw [List.mem_singleton.1 hu]; exact Int.le_refl _
      · rw [if_neg (fun h => hx h.1)]
        left
        refine ⟨rfl, fun u hu => ?_⟩
        rcases List.mem_append.1 hu with hu | hu
        · exact h2 u hu
        · rw [List.mem_singleton.1 hu]; omega
    · by_cases hx : 0 ≤ Tj.ix d x ∧ (leastF d (ts.take k) < 0 ∨ Tj.ix d x < leastF d (ts.take k))
      · rw [if_pos hx]
        right
        refine ⟨hx.1, ⟨x, by simp, rfl⟩, fun u hu h0 => ?_⟩
        rcases List.mem_append.1 hu with hu | hu
        · have := h4 u hu h0; omega
        · rw [List.mem_singleton.1 hu]; exact Int.le_refl _
      · rw [if_neg hx]
        right
        refine ⟨h1, ⟨t, by simp [h2], h3⟩, fun u hu h0 => ?_⟩
        rcases List.mem_append.1 hu with hu | hu
        · exact h4 u hu h0
        · rw [List.mem_singleton.1 hu] at h0 ⊢; omega

/-- Path and cycle of a lasso. -/
structure IsLas (E : Nat → List Nat) (n s : Nat) (p c : List Nat) : Prop where
  h : ∃ (d d' : List Int) (k t x m : Nat), IsDist E n (fun v => v < n ∧ OnC E v) d ∧ Tj.ix d s = k ∧ t = endN E d k s ∧ p = walkN E d k s ++ [t] ∧ IsDist E n (fun v => v = t) d' ∧ leastF d' (E t) = m ∧ followL d' m (E t) = x ∧ x ∈ E t ∧ Tj.ix d' x = m ∧ c = t :: walkN E d' m x

theorem least_cyc {E : Nat → List Nat} {n t : Nat} {d' : List Int} (hE : ∀ a b, a < n → b ∈ E a → b < n) (h : IsDist E n (fun v => v = t) d') (ht : t < n) (ho : OnC E t) : ∃ m x : Nat, leastF d' (E t) = m ∧ followL d' m (E t) = x ∧ x ∈ E t ∧ Tj.ix d' x = m := by
  obtain ⟨a, ha, hp⟩ := ho
  have ha' := hE _ _ ht ha
  have h0 : 0 ≤ Tj.ix d' a := by
    rcases (show Tj.ix d' a < 0 ∨ 0 ≤ Tj.ix d' a by omega) with h1 | h1
    · obtain ⟨k, hk⟩ := hp.pathN
      exact absurd hk ((h.none a ha' h1).2 k t rfl)
    · exact h1
  rcases leastF_spec d' (E t) with ⟨_, h2⟩ | ⟨h1, h2, _⟩
  · have := h2 a ha; omega
  · obtain ⟨m, hm⟩ : ∃ m : Nat, leastF d' (E t) = m := ⟨(leastF d' (E t)).toNat, by omega⟩
    rw [hm] at h2
    obtain ⟨x, h3, h4, h5⟩ := followL_some h2
    exact ⟨m, x, hm, h4, h3, h5⟩

/-- Any two lassos are the same. -/
theorem IsLas.unique {E : Nat → List Nat} {n s : Nat} {p c p' c' : List Nat} (h : IsLas E n s p c) (h' : IsLas E n s p' c') : p = p' ∧ c = c' := by
  obtain ⟨d1, e1, k1, t1, x1, m1, a1, a2, a3, a4, a5, a6, a7, _, _, a8⟩ := h.h
  obtain ⟨d2, e2, k2, t2, x2, m2, b1, b2, b3, b4, b5, b6, b7, _, _, b8⟩ := h'.h
  obtain rfl := a1.unique b1
  obtain rfl : k1 = k2 := by omega
  rw [← a3] at b3
  subst b3
  obtain rfl := a5.unique b5
  obtain rfl : m1 = m2 := by omega
  obtain rfl : x1 = x2 := by omega
  exact ⟨by rw [a4, b4], by rw [a8, b8]⟩

/-- What the program's Lasso says. -/
structure LassoIs (E : Nat → List Nat) (n : Nat) (v : Bool) (s : Int) (p c : List Nat) (ok : Bool) : Prop where
  yes : ok = true → v = true ∧ ∃ k : Nat, s = k ∧ k < n ∧ Div E k ∧ IsLas E n k p c
  no : ok = false → p = [] ∧ c = [] ∧ ¬ (v = true ∧ ∃ k : Nat, s = k ∧ k < n ∧ Div E k)

end Go.Proofs.Ytknfdpkfomlckaa

/- Plain law: the arcs that are followed; depth-first search finds what is reached. No program. -/
namespace Go.Proofs.Ytknfdpkfomlckaa

def follows (silent : Bool) (a : Arc) : Bool := !silent || decide (a.1 = 0)
theorem tw_filter : ∀ (row : List Arc), row.Pairwise (fun a b => a.1 ≤ b.1) → (∀ a ∈ row, 0 ≤ a.1) → row.takeWhile isTau = row.filter (fun a => decide (a.1 = 0))
  | [], _, _ => rfl
  | a :: r, hp, h0 => by
    have h1 := List.pairwise_cons.1 hp
    have ha := h0 a (List.mem_cons_self ..)
    by_cases he : a.1 = 0
    · rw [List.takeWhile_cons_of_pos (by simp [isTau, he]), List.filter_cons_of_pos (by simp [he]), tw_filter r h1.2 (fun b hb => h0 b (List.mem_cons_of_mem _ hb))]
    · rw [List.takeWhile_cons_of_neg (by simp [isTau, he]), List.filter_cons_of_neg (by simp [he])]
      symm
      rw [List.filter_eq_nil_iff]
      intro b hb
      have := h1.1 b hb
      simp
      omega
theorem sel_filter {n : Nat} {row : List Arc} (h : VRow n row) (silent : Bool) : sel row silent = row.filter (follows silent) := by
  unfold sel
  cases silent with
  | false =>
    simp only [Bool.false_eq_true, if_false]
    symm
    rw [List.filter_eq_self]
    intro a _
    simp [follows]
  | true =>
    simp only [if_true]
    rw [tw_filter row (ascB_le row h.asc) (fun a ha => (h.ok a.1 a.2 ha).1)]
    refine List.filter_congr (fun a _ => ?_)
    simp [follows]

/-! ### depth-first search -/
structure Dfs (E : Nat → List Nat) (n : Nat) (fr : List Nat) (seen : List Bool) (todo : List Nat) : Prop where
  len : seen.length = n
  lt : ∀ v ∈ todo, v < n
  snd : ∀ v, seen[v]? = some true ∨ v ∈ todo → ∃ s ∈ fr, Path E s v
  has : ∀ s ∈ fr, seen[s]? = some true ∨ s ∈ todo
  cl : ∀ v, seen[v]? = some true → ∀ t ∈ E v, seen[t]? = some true ∨ t ∈ todo

theorem Path.snoc {E : Nat → List Nat} {a b c : Nat} (h : Path E a b) (hc : c ∈ E b) : Path E a c := h.trans (Path.one hc)

theorem Dfs.start {E : Nat → List Nat} {n : Nat} {fr : List Nat} (h : ∀ v ∈ fr, v < n) : Dfs E n fr (List.replicate n false) fr := by
  have h0 : ∀ v : Nat, (List.replicate n false)[v]? ≠ some true := fun v => by
    rw [List.getElem?_replicate]
    split <;> simp
  exact ⟨by simp, h, fun v hv => hv.elim (fun e => absurd e (h0 v)) (fun hm => ⟨v, hm, .refl v⟩), fun s hs => .inr hs, fun v hv => absurd hv (h0 v)⟩
theorem Dfs.skip {E : Nat → List Nat} {n : Nat} {fr : List Nat} {seen : List Bool} {r : List Nat} {s : Nat} (h : Dfs E n fr seen (r ++ [s])) (hs : seen[s]? = some true) : Dfs E n fr seen r := by
  have key : ∀ v, seen[v]? = some true ∨ v ∈ r ++ [s] → seen[v]? = some true ∨ v ∈ r := fun v hv => by
    rcases hv with hv | hv
    · exact .inl hv
    · rcases List.mem_append.1 hv with hv | hv
      · exact .inr hv
      · rw [List.mem_singleton.1 hv]; exact .inl hs
  exact ⟨h.len, fun v hv => h.lt v (List.mem_append_left _ hv), fun v hv => h.snd v (hv.imp id (fun hm => List.mem_append_left _ hm)), fun v hv => key v (h.has v hv), fun v hv t ht => key t (h.cl v hv t ht)⟩
theorem seen_set {seen : List Bool} {s : Nat} (hs : s < seen.length) (v : Nat) : (seen.set s true)[v]? = some true ↔ v = s ∨ seen[v]? = some true := by
  rw [List.getElem?_set]
  by_cases h1 : s = v
  · subst h1; simp [hs]
  · rw [if_neg h1]
    exact ⟨fun h => .inr h, fun h => h.elim (fun e => absurd e.symm h1) id⟩
theorem Dfs.visit {E : Nat → List Nat} {n : Nat} {fr : List Nat} {seen : List Bool} {r : List Nat} {s : Nat} (hE : ∀ a b, a < n → b ∈ E a → b < n) (h : Dfs E n fr seen (r ++ [s])) : Dfs E n fr (seen.set s true) (r ++ E s) := by
  have hsn : s < n := h.lt s (by simp)
  have hsl : s < seen.length := by rw [h.len]; exact hsn
  have key : ∀ v, seen[v]? = some true ∨ v ∈ r ++ [s] → (seen.set s true)[v]? = some true ∨ v ∈ r ++ E s := fun v hv => by
    rw [seen_set hsl]
    rcases hv with hv | hv
    · exact .inl (.inr hv)
    · rcases List.mem_append.1 hv with hv | hv
      · exact .inr (List.mem_append_left _ hv)
      · exact .inl (.inl (List.mem_singleton.1 hv))
  refine ⟨by rw [List.length_set]; exact h.len, fun v hv => ?_, fun v hv => ?_, fun v hv => key v (h.has v hv), fun v hv t ht => ?_⟩
  · rcases List.mem_append.1 hv with hv | hv
    · exact h.lt v (List.mem_append_left _ hv)
    · exact hE s v hsn hv
  · rw [seen_set hsl] at hv
    rcases hv with (rfl | hv) | hv
    · exact h.snd v (.inr (by simp))
    · exact h.snd v (.inl hv)
    · rcases List.mem_append.1 hv with hv | hv
      · exact h.snd v (.inr (List.mem_append_left _ hv))
      · obtain ⟨u, hu, hp⟩ := h.snd s (.inr (by simp))
        exact ⟨u, hu, hp.snoc hv⟩
  · rw [seen_set hsl] at hv
    rcases hv with rfl | hv
    · exact .inr (List.mem_append_right _ ht)
    · exact key t (h.cl v hv t ht)
theorem Dfs.finish {E : Nat → List Nat} {n : Nat} {fr : List Nat} {seen : List Bool} (h : Dfs E n fr seen []) (v : Nat) : seen[v]? = some true ↔ ∃ s ∈ fr, Path E s v := by
  refine ⟨fun hv => h.snd v (.inl hv), ?_⟩
  rintro ⟨s, hs, hp⟩
  have h0 : seen[s]? = some true := (h.has s hs).elim id (fun hm => by cases hm)
  exact hp.closed (P := fun v => seen[v]? = some true) (fun a b ha hb => (h.cl a ha b hb).elim id (fun hm => by cases hm)) h0

/-- What is left to be pushed. -/
def wtf (E : Nat → List Nat) (seen : List Bool) (v : Nat) : Nat := if seen[v]? = some true then 0 else (E v).length
def sumf (f : Nat → Nat) : Nat → Nat
  | 0 => 0
  | n + 1 => sumf f n + f n
theorem sumf_congr {f g : Nat → Nat} : ∀ {n : Nat}, (∀ v, v < n → f v = g v) → sumf f n = sumf g n
  | 0, _ => rfl
  | n + 1, h => by rw [sumf, sumf, sumf_congr (fun v hv => h v (by omega)), h n (by omega)]
theorem sumf_point {f g : Nat → Nat} {s : Nat} : ∀ {n : Nat}, s < n → (∀ v, v ≠ s → f v = g v) → sumf f n + g s = sumf g n + f s
  | 0, hs, _ => absurd hs (Nat.not_lt_zero _)
  | n + 1, hs, h => by
    rw [sumf, sumf]
    by_cases hn : s = n
    · subst hn
      have := sumf_congr (f := f) (g := g) (n := s) (fun v hv => h v (by omega))
      omega
    · have := sumf_point (f := f) (g := g) (s := s) (n := n) (by omega) h
      have := h n (fun e => hn e.symm)
      omega
theorem sumf_le {f g : Nat → Nat} : ∀ {n : Nat}, (∀ v, v < n → f v ≤ g v) → sumf f n ≤ sumf g n
  | 0, _ => Nat.le_refl _
  | n + 1, h => by
    have h1 := sumf_le (f := f) (g := g) (n := n) (fun v hv => h v (by omega))
    have h2 := h n (by omega)
    rw [sumf, sumf]
    omega
def wt (E : Nat → List Nat) (n : Nat) (seen : List Bool) : Nat := sumf (wtf E seen) n
theorem wt_visit {E : Nat → List Nat} {n : Nat} {seen : List Bool} {s : Nat} (hs : s < n) (hl : seen.length = n) (h0 : seen[s]? ≠ some true) : wt E n (seen.set s true) + (E s).length = wt E n seen := by
  have h1 := sumf_point (f := wtf E (seen.set s true)) (g := wtf E seen) (s := s) (n := n) hs (fun v hv => by
    have : (seen.set s true)[v]? = some true ↔ seen[v]? = some true := by
      rw [seen_set (by omega)]
      exact ⟨fun h => h.elim (fun e => absurd e hv) id, .inr⟩
    simp only [wtf, this])
  have h2 : wtf E (seen.set s true) s = 0 := by
    rw [wtf, if_pos ((seen_set (by omega) s).2 (.inl rfl))]
  have h3 : wtf E seen s = (E s).length := by rw [wtf, if_neg h0]
  rw [h2, h3] at h1
  exact h1
theorem wt_le {E : Nat → List Nat} {n : Nat} (seen : List Bool) : wt E n seen ≤ sumf (fun v => (E v).length) n := by
  refine sumf_le (fun v _ => ?_)
  unfold wtf
  split <;> omega

/-- The states that are reached, ascending. -/
structure IsReach (E : Nat → List Nat) (fr vs : List Nat) : Prop where
  asc : vs.Pairwise (· < ·)
  mem : ∀ v, v ∈ vs ↔ ∃ s ∈ fr, Path E s v
theorem asc_unique : ∀ {a b : List Nat}, a.Pairwise (· < ·) → b.Pairwise (· < ·) → (∀ v, v ∈ a ↔ v ∈ b) → a = b
  | [], [], _, _, _ => rfl
  | [], y :: q, _, _, h => absurd ((h y).2 (List.mem_cons_self ..)) (by simp)
  | x :: r, [], _, _, h => absurd ((h x).1 (List.mem_cons_self ..)) (by simp)
  | x :: r, y :: q, ha, hb, h => by
    have h1 := List.pairwise_cons.1 ha
    have h2 := List.pairwise_cons.1 hb
    have hxy : x = y := by
      rcases List.mem_cons.1 ((h x).1 (List.mem_cons_self ..)) with e | e
      · exact e
      · rcases List.mem_cons.1 ((h y).2 (List.mem_cons_self ..)) with e' | e'
        · exact e'.symm
        · have := h2.1 x e
          have := h1.1 y e'
          omega
    subst hxy
    rw [asc_unique h1.2 h2.2 (fun v => ?_)]
    have h3 := h v
    simp only [List.mem_cons] at h3
    constructor
    · intro hv
      rcases h3.1 (.inr hv) with e | e
      · have := h1.1 v hv; omega
      · exact e
    · intro hv
      rcases h3.2 (.inr hv) with e | e
      · have := h2.1 v hv; omega
      · exact e
theorem IsReach.unique {E : Nat → List Nat} {fr a b : List Nat} (ha : IsReach E fr a) (hb : IsReach E fr b) : a = b :=
  asc_unique ha.asc hb.asc (fun v => (ha.mem v).trans (hb.mem v).symm)

/-- The entries below k that are true. -/
def trues (seen : List Bool) (k : Nat) : List Nat := (List.range k).filter fun v => decide (seen[v]? = some true)
theorem trues_yes {seen : List Bool} {k : Nat} (h : seen[k]? = some true) : trues seen (k + 1) = trues seen k ++ [k] := by
  simp [trues, List.range_succ, List.filter_append, h]
theorem trues_no {seen : List Bool} {k : Nat} (h : seen[k]? ≠ some true) : trues seen (k + 1) = trues seen k := by
  simp [trues, List.range_succ, List.filter_append, h]
theorem trues_len (seen : List Bool) (k : Nat) : (trues seen k).length ≤ k := by
  have := List.length_filter_le (fun v => decide (seen[v]? = some true)) (List.range k)
  simpa [trues] using this
theorem trues_reach {E : Nat → List Nat} {n : Nat} {fr : List Nat} {seen : List Bool} (h : Dfs E n fr seen []) : IsReach E fr (trues seen n) := by
  refine ⟨List.Pairwise.filter _ List.pairwise_lt_range, fun v => ?_⟩
  rw [trues, List.mem_filter, List.mem_range, decide_eq_true_eq, h.finish v]
  refine ⟨fun hh => hh.2, fun hh => ⟨?_, hh⟩⟩
  have h1 := (h.finish v).2 hh
  have := (List.getElem?_eq_some_iff.1 h1).1
  have := h.len
  omega

end Go.Proofs.Ytknfdpkfomlckaa
