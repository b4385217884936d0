/- Plain law: the levels of shortest paths, thinned, find the same lasso as the distances. No program. -/
import Derived.Test.YtknfdpkfomlckaaAC
namespace Go.Proofs.Ytknfdpkfomlckaa

def lastN (q : List Nat) : Nat := q.getLastD 0
theorem lastN_snoc (q : List Nat) (b : Nat) : lastN (q ++ [b]) = b := by simp [lastN]
def extL (E : Nat → List Nat) (X : List (List Nat)) : List (List Nat) := X.flatMap fun q => (E (lastN q)).map fun b => q ++ [b]
def thinStep (out : List (List Nat)) (q : List Nat) : List (List Nat) := if out.any (fun r => lastN r == lastN q) then out else out ++ [q]
def thinL (X : List (List Nat)) : List (List Nat) := X.foldl thinStep []
def fstL (G : Nat → Bool) (X : List (List Nat)) : Option (List Nat) := X.find? fun q => G (lastN q)

theorem thin_go (G : Nat → Bool) : ∀ (X out : List (List Nat)), fstL G (X.foldl thinStep out) = fstL G (out ++ X)
  | [], out => by rw [List.foldl_nil, List.append_nil]
  | q :: X, out => by
    rw [List.foldl_cons, thin_go G X, thinStep]
    split
    · rename_i h
      obtain ⟨r, hr, he⟩ := List.any_eq_true.1 h
      have he' : lastN r = lastN q := by simpa using he
      unfold fstL
      rw [List.find?_append, List.find?_append, List.find?_cons]
      by_cases hg : G (lastN q) = true
      · have : (out.find? fun q => G (lastN q)).isSome = true := by
          rw [List.find?_isSome]
          exact ⟨r, hr, by rw [he']; exact hg⟩
        obtain ⟨u, hu⟩ := Option.isSome_iff_exists.1 this
        rw [hu]
        rfl
      · have : G (lastN q) = false := by simpa using hg
        rw [this]
    · rw [List.append_assoc]
      rfl
theorem thin_find (G : Nat → Bool) (X : List (List Nat)) : fstL G (thinL X) = fstL G X := by rw [thinL, thin_go, List.nil_append]

def pre (E : Nat → List Nat) (G : Nat → Bool) (v : Nat) : Bool := (E v).any G
def nx1 (E : Nat → List Nat) (G : Nat → Bool) (v : Nat) : Nat := ((E v).find? G).getD 0
theorem ext_find (E : Nat → List Nat) (G : Nat → Bool) : ∀ (X : List (List Nat)), fstL G (extL E X) = (fstL (pre E G) X).map fun q => q ++ [nx1 E G (lastN q)]
  | [] => rfl
  | q :: X => by
    have ih := ext_find E G X
    unfold fstL at ih ⊢
    rw [extL, List.flatMap_cons, List.find?_append, List.find?_map]
    rw [extL] at ih
    rw [ih, List.find?_cons]
    have hc : ((fun q => G (lastN q)) ∘ fun b => q ++ [b]) = G := by
      funext b
      simp [lastN_snoc]
    rw [hc]
    cases hp : (E (lastN q)).find? G with
    | none =>
      have : pre E G (lastN q) = false := by
        rw [pre, List.any_eq_false]
        exact fun x hx => by simpa using List.find?_eq_none.1 hp x hx
      rw [this]
      rfl
    | some b =>
      have : pre E G (lastN q) = true := by
        rw [pre, List.any_eq_true]
        exact ⟨b, List.mem_of_find?_eq_some hp, List.find?_some hp⟩
      rw [this]
      simp [nx1, hp]

def preN (E : Nat → List Nat) (G : Nat → Bool) : Nat → Nat → Bool
  | 0, v => G v
  | j + 1, v => pre E (preN E G j) v
theorem preN_iff (E : Nat → List Nat) (G : Nat → Bool) : ∀ (j v : Nat), preN E G j v = true ↔ ∃ t, G t = true ∧ PathN E j v t
  | 0, v => by
    constructor
    · exact fun h => ⟨v, h, .refl v⟩
    · rintro ⟨t, h, hp⟩
      cases hp
      exact h
  | j + 1, v => by
    rw [preN, pre, List.any_eq_true]
    constructor
    · rintro ⟨b, hb, h⟩
      obtain ⟨t, ht, hp⟩ := (preN_iff E G j b).1 h
      exact ⟨t, ht, .step hb hp⟩
    · rintro ⟨t, ht, hp⟩
      cases hp with
      | step e hp => exact ⟨_, e, (preN_iff E G j _).2 ⟨t, ht, hp⟩⟩
theorem preN_fun (E : Nat → List Nat) (G : Nat → Bool) (j : Nat) : (fun v => preN E G (j + 1) v) = pre E (preN E G j) := rfl

theorem step_find (E : Nat → List Nat) (G : Nat → Bool) (j : Nat) (X : List (List Nat)) : fstL (preN E G j) (thinL (extL E X)) = (fstL (preN E G (j + 1)) X).map fun q => q ++ [nx1 E (preN E G j) (lastN q)] := by
  rw [thin_find, ext_find]
  rfl
theorem step_some (E : Nat → List Nat) (G : Nat → Bool) (j : Nat) (X : List (List Nat)) : (fstL (preN E G j) (thinL (extL E X))).isSome = (fstL (preN E G (j + 1)) X).isSome := by
  rw [step_find, Option.isSome_map]

theorem find_follow (d : List Int) (x : Int) (P : Nat → Bool) : ∀ (ts : List Nat), (∀ b ∈ ts, P b = true ↔ Tj.ix d b = x) → ∀ t : Nat, followL d x ts = (t : Int) → (∃ b ∈ ts, Tj.ix d b = x) → (ts.find? P).getD 0 = t
  | [], _, _, _, hb => by obtain ⟨b, hb, _⟩ := hb; cases hb
  | a :: r, h, t, hf, hb => by
    rw [followL] at hf
    by_cases ha : Tj.ix d a = x
    · rw [if_pos ha] at hf
      rw [List.find?_cons_of_pos ((h a (List.mem_cons_self ..)).2 ha)]
      simp only [Option.getD_some]
      omega
    · rw [if_neg ha] at hf
      rw [List.find?_cons_of_neg (fun h9 => ha ((h a (List.mem_cons_self ..)).1 h9))]
      refine find_follow d x P r (fun b hb => h b (List.mem_cons_of_mem _ hb)) t hf ?_
      obtain ⟨b, hb, hbx⟩ := hb
      rcases List.mem_cons.1 hb with rfl | hb
      · exact absurd hbx ha
      · exact ⟨b, hb, hbx⟩

theorem PathN.lt {E : Nat → List Nat} {n : Nat} (hE : ∀ a b, a < n → b ∈ E a → b < n) {j v t : Nat} (h : PathN E j v t) : v < n → t < n := by
  induction h with
  | refl => exact id
  | step e _ ih => exact fun hv => ih (hE _ _ hv e)

/-- One level more: the walk goes on as the distances say. -/
theorem level_next {E : Nat → List Nat} {n : Nat} {g : Nat → Prop} {G : Nat → Bool} {d : List Int} (hE : ∀ a b, a < n → b ∈ E a → b < n) (hG : ∀ v, v < n → (G v = true ↔ g v)) (hgn : ∀ v, G v = true → v < n) (h : IsDist E n g d) {j u : Nat} {r : List Nat} {X : List (List Nat)} (hu : u < n) (hd : Tj.ix d u = (j : Int) + 1) (hX : fstL (preN E G (j + 1)) X = some (r ++ [u])) :
    fstL (preN E G j) (thinL (extL E X)) = some (r ++ [u] ++ [nxt E d u]) := by
  rw [step_find, hX, Option.map_some, lastN_snoc]
  congr 2
  congr 1
  have hok := nxt_ok hE h hu (by omega)
  have hj : Tj.ix d u - 1 = (j : Int) := by omega
  rw [hj] at hok
  refine find_follow d j (preN E G j) (E u) (fun b hb => ?_) _ hok.2.2.2 ⟨_, hok.2.1, hok.2.2.1⟩
  have hbn := hE _ _ hu hb
  rw [preN_iff]
  constructor
  · rintro ⟨t, ht, hp⟩
    have hgt := (hG t (hgn t ht)).1 ht
    have hb0 : 0 ≤ Tj.ix d b := by
      rcases (show Tj.ix d b < 0 ∨ 0 ≤ Tj.ix d b by omega) with h1 | h1
      · exact absurd hp ((h.none b hbn h1).2 _ t hgt)
      · exact h1
    have h1 := h.least b j t hbn hb0 hgt hp
    obtain ⟨k', u', hk', hu', hp'⟩ := h.some b hbn hb0
    have h3 := h.least u (k' + 1) u' hu (by omega) hu' (.step hb hp')
    omega
  · intro hx
    obtain ⟨k', u', hk', hu', hp'⟩ := h.some b hbn (by omega)
    obtain rfl : k' = j := by omega
    refine ⟨u', ?_, hp'⟩
    exact (hG u' (hp'.lt hE hbn)).2 hu'

/-- The levels of the walk. -/
def Lv (E : Nat → List Nat) (s : Nat) : Nat → List (List Nat)
  | 0 => [[s]]
  | i + 1 => thinL (extL E (Lv E s i))
theorem lv_walk {E : Nat → List Nat} {n : Nat} {g : Nat → Prop} {G : Nat → Bool} {d : List Int} (hE : ∀ a b, a < n → b ∈ E a → b < n) (hG : ∀ v, v < n → (G v = true ↔ g v)) (hgn : ∀ v, G v = true → v < n) (h : IsDist E n g d) {s k : Nat} (hs : s < n) (hk : Tj.ix d s = k) :
    ∀ i, i ≤ k → fstL (preN E G (k - i)) (Lv E s i) = some (walkN E d i s ++ [endN E d i s])
  | 0, _ => by
    rw [Nat.sub_zero, Lv, fstL, List.find?_cons]
    have : preN E G k (lastN [s]) = true := by
      rw [preN_iff]
      obtain ⟨k', u', hk', hu', hp'⟩ := h.some s hs (by omega)
      obtain rfl : k' = k := by omega
      exact ⟨u', (hG u' (hp'.lt hE hs)).2 hu', hp'⟩
    rw [this]
    rfl
  | i + 1, hi => by
    have ih := lv_walk hE hG hgn h hs hk i (by omega)
    have he := endN_ok hE h i s hs (by omega)
    rw [show k - i = k - (i + 1) + 1 by omega] at ih
    have := level_next hE hG hgn h he.1 (by rw [he.2, hk]; omega) ih
    rw [Lv, this, walkN_snoc, endN_snoc]
theorem lv_some (E : Nat → List Nat) (G : Nat → Bool) (s : Nat) : ∀ (i j : Nat), (fstL (preN E G j) (Lv E s i)).isSome = preN E G (j + i) s
  | 0, j => by
    rw [Lv, fstL, List.find?_cons, Nat.add_zero]
    cases h : preN E G j s with
    | true => rw [show lastN [s] = s from rfl, h]; rfl
    | false => rw [show lastN [s] = s from rfl, h]; rfl
  | i + 1, j => by
    rw [Lv, step_some, lv_some E G s i (j + 1), show j + 1 + i = j + (i + 1) by omega]
/-- No goal before level k; at level k the walk of the distances comes first. -/
theorem lv_none {E : Nat → List Nat} {n : Nat} {g : Nat → Prop} {G : Nat → Bool} {d : List Int} (hG : ∀ v, v < n → (G v = true ↔ g v)) (hgn : ∀ v, G v = true → v < n) (h : IsDist E n g d) {s k : Nat} (hs : s < n) (hk : Tj.ix d s = k) {i : Nat} (hi : i < k) : fstL G (Lv E s i) = none := by
  cases hf : fstL G (Lv E s i) with
  | none => rfl
  | some q =>
    have h1 := lv_some E G s i 0
    rw [show preN E G 0 = G from rfl, hf, Nat.zero_add] at h1
    obtain ⟨t, ht, hp⟩ := (preN_iff E G i s).1 h1.symm
    have := h.least s i t hs (by omega) ((hG t (hgn t ht)).1 ht) hp
    omega
theorem lv_hit {E : Nat → List Nat} {n : Nat} {g : Nat → Prop} {G : Nat → Bool} {d : List Int} (hE : ∀ a b, a < n → b ∈ E a → b < n) (hG : ∀ v, v < n → (G v = true ↔ g v)) (hgn : ∀ v, G v = true → v < n) (h : IsDist E n g d) {s k : Nat} (hs : s < n) (hk : Tj.ix d s = k) : fstL G (Lv E s k) = some (walkN E d k s ++ [endN E d k s]) := by
  have := lv_walk hE hG hgn h hs hk k (Nat.le_refl _)
  rw [Nat.sub_self] at this
  exact this

/-- The levels of the cycle. -/
def Cv (E : Nat → List Nat) (t : Nat) : Nat → List (List Nat)
  | 0 => extL E [[t]]
  | i + 1 => thinL (extL E (Cv E t i))
theorem cv_walk {E : Nat → List Nat} {n t : Nat} {d : List Int} (hE : ∀ a b, a < n → b ∈ E a → b < n) (h : IsDist E n (fun v => v = t) d) (ht : t < n) {m x : Nat} (hm : leastF d (E t) = m) (hf : followL d m (E t) = x) (hx : x ∈ E t) (hxm : Tj.ix d x = m) :
    ∀ i, i ≤ m → fstL (preN E (fun v => v == t) (m - i)) (Cv E t i) = some ([t] ++ walkN E d i x ++ [endN E d i x])
  | 0, _ => by
    have hxn := hE _ _ ht hx
    rw [Nat.sub_zero, Cv, ext_find, fstL, List.find?_cons]
    have hpm : ∀ b ∈ E t, preN E (fun v => v == t) m b = true ↔ Tj.ix d b = m := fun b hb => by
      have hbn := hE _ _ ht hb
      rw [preN_iff]
      constructor
      · rintro ⟨u, hu, hp⟩
        obtain rfl : u = t := by simpa using hu
        have hb0 : 0 ≤ Tj.ix d b := by
          rcases (show Tj.ix d b < 0 ∨ 0 ≤ Tj.ix d b by omega) with h1 | h1
          · exact absurd hp ((h.none b hbn h1).2 _ _ rfl)
          · exact h1
        have h1 := h.least b m _ hbn hb0 rfl hp
        rcases leastF_spec d (E u) with ⟨h2, _⟩ | ⟨_, _, h4⟩
        · omega
        · have := h4 b hb hb0
          omega
      · intro hb'
        obtain ⟨k', u', hk', rfl, hp'⟩ := h.some b hbn (by omega)
        obtain rfl : k' = m := by omega
        exact ⟨u', by simp, hp'⟩
    have hp : pre E (preN E (fun v => v == t) m) (lastN [t]) = true := by
      rw [pre, List.any_eq_true]
      exact ⟨x, hx, (hpm x hx).2 hxm⟩
    have hnx : nx1 E (preN E (fun v => v == t) m) (lastN [t]) = x := find_follow d m _ (E t) hpm x hf ⟨x, hx, hxm⟩
    rw [hp]
    simp only [Option.map_some, hnx, walkN, endN, List.append_nil]
  | i + 1, hi => by
    have hxn := hE _ _ ht hx
    have ih := cv_walk hE h ht hm hf hx hxm i (by omega)
    have he := endN_ok hE h i x hxn (by omega)
    rw [show m - i = m - (i + 1) + 1 by omega] at ih
    have := level_next hE (G := fun v => v == t) (fun v _ => by simp) (fun v hv => by have : v = t := by simpa using hv
                                                                                      omega) h he.1 (by rw [he.2, hxm]; omega) ih
    rw [Cv, this, walkN_snoc, endN_snoc, List.append_assoc [t]]
theorem cv_some (E : Nat → List Nat) (G : Nat → Bool) (t : Nat) : ∀ (i j : Nat), (fstL (preN E G j) (Cv E t i)).isSome = preN E G (j + i + 1) t
  | 0, j => by
    rw [Cv, ext_find, Option.isSome_map, fstL, List.find?_cons, Nat.add_zero, preN]
    cases h : pre E (preN E G j) t with
    | true => rw [show lastN [t] = t from rfl, h]; rfl
    | false => rw [show lastN [t] = t from rfl, h]; rfl
  | i + 1, j => by
    rw [Cv, step_some, cv_some E G t i (j + 1), show j + 1 + i + 1 = j + (i + 1) + 1 by omega]
theorem cv_none {E : Nat → List Nat} {n t : Nat} {d : List Int} (hE : ∀ a b, a < n → b ∈ E a → b < n) (h : IsDist E n (fun v => v = t) d) (ht : t < n) {m : Nat} (hm : leastF d (E t) = m) {i : Nat} (hi : i < m) : fstL (fun v => v == t) (Cv E t i) = none := by
  cases hf : fstL (fun v => v == t) (Cv E t i) with
  | none => rfl
  | some q =>
    have h1 := cv_some E (fun v => v == t) t i 0
    rw [show preN E (fun v => v == t) 0 = fun v => v == t from rfl, hf, Nat.zero_add] at h1
    obtain ⟨u, hu, hp⟩ := (preN_iff E _ (i + 1) t).1 h1.symm
    obtain rfl : u = t := by simpa using hu
    cases hp with
    | step e hp =>
      rename_i b
      have hbn := hE _ _ ht e
      have hb0 : 0 ≤ Tj.ix d b := by
        rcases (show Tj.ix d b < 0 ∨ 0 ≤ Tj.ix d b by omega) with h1 | h1
        · exact absurd hp ((h.none b hbn h1).2 _ _ rfl)
        · exact h1
      have h3 := h.least b i _ hbn hb0 rfl hp
      rcases leastF_spec d (E u) with ⟨h2, _⟩ | ⟨_, _, h4⟩
      · omega
      · have := h4 b e hb0
        omega
theorem cv_hit {E : Nat → List Nat} {n t : Nat} {d : List Int} (hE : ∀ a b, a < n → b ∈ E a → b < n) (h : IsDist E n (fun v => v = t) d) (ht : t < n) {m x : Nat} (hm : leastF d (E t) = m) (hf : followL d m (E t) = x) (hx : x ∈ E t) (hxm : Tj.ix d x = m) :
    fstL (fun v => v == t) (Cv E t m) = some ((t :: walkN E d m x) ++ [t]) := by
  have hxn := hE _ _ ht hx
  have h1 := cv_walk hE h ht hm hf hx hxm m (Nat.le_refl _)
  rw [Nat.sub_self] at h1
  have he := endN_ok hE h m x hxn (by omega)
  have h2 : endN E d m x = t := (dist_goal h he.1).1 (by rw [he.2]; omega)
  rw [show preN E (fun v => v == t) 0 = fun v => v == t from rfl, h2] at h1
  rw [h1]
  rfl

/-- What is kept of a level: nonempty paths of equal length, ends in range, ends distinct when thinned. -/
structure LvOk (n N : Nat) (X : List (List Nat)) : Prop where
  len : ∀ q ∈ X, q.length = N
  pos : 0 < N
  rng : ∀ q ∈ X, lastN q < n
theorem LvOk.ext {E : Nat → List Nat} {n N : Nat} {X : List (List Nat)} (hE : ∀ a b, a < n → b ∈ E a → b < n) (h : LvOk n N X) : LvOk n (N + 1) (extL E X) := by
  refine ⟨fun q hq => ?_, by omega, fun q hq => ?_⟩
  · obtain ⟨r, hr, hq⟩ := List.mem_flatMap.1 hq
    obtain ⟨b, _, rfl⟩ := List.mem_map.1 hq
    rw [List.length_append, h.len r hr]
    rfl
  · obtain ⟨r, hr, hq⟩ := List.mem_flatMap.1 hq
    obtain ⟨b, hb, rfl⟩ := List.mem_map.1 hq
    rw [lastN_snoc]
    exact hE _ _ (h.rng r hr) hb
theorem thinStep_sub {out : List (List Nat)} {q r : List Nat} (h : r ∈ thinStep out q) : r ∈ out ∨ r = q := by
  rw [thinStep] at h
  split at h
  · exact .inl h
  · rcases List.mem_append.1 h with h | h
    · exact .inl h
    · exact .inr (by simpa using h)
theorem thin_sub_go {r : List Nat} : ∀ {X out : List (List Nat)}, r ∈ X.foldl thinStep out → r ∈ out ∨ r ∈ X
  | [], _, h => .inl h
  | q :: X, out, h => by
    rw [List.foldl_cons] at h
    rcases thin_sub_go h with h | h
    · rcases thinStep_sub h with h | h
      · exact .inl h
      · exact .inr (by rw [h]; exact List.mem_cons_self ..)
    · exact .inr (List.mem_cons_of_mem _ h)
theorem LvOk.thin {n N : Nat} {X : List (List Nat)} (h : LvOk n N X) : LvOk n N (thinL X) :=
  ⟨fun q hq => h.len q ((thin_sub_go hq).resolve_left (by simp)), h.pos, fun q hq => h.rng q ((thin_sub_go hq).resolve_left (by simp))⟩
def EndsD (X : List (List Nat)) : Prop := (X.map lastN).Nodup
theorem thinStep_ends {out : List (List Nat)} {q : List Nat} (h : EndsD out) : EndsD (thinStep out q) := by
  rw [thinStep]
  split
  · exact h
  · rename_i hn
    rw [EndsD, List.map_append, List.nodup_append]
    refine ⟨h, by simp, fun a ha b hb e => hn ?_⟩
    obtain ⟨r, hr, rfl⟩ := List.mem_map.1 ha
    simp only [List.map_cons, List.map_nil, List.mem_singleton] at hb
    exact List.any_eq_true.2 ⟨r, hr, by simp [e, hb]⟩
theorem thin_ends_go : ∀ {X out : List (List Nat)}, EndsD out → EndsD (X.foldl thinStep out)
  | [], _, h => h
  | q :: X, _, h => thin_ends_go (X := X) (thinStep_ends (q := q) h)
theorem ends_few {n N : Nat} {X : List (List Nat)} (h : EndsD X) (hl : LvOk n N X) : X.length ≤ n := by
  have := List.Nodup.length_le_of_subset (l₂ := List.range n) h (fun v hv => by
    obtain ⟨q, hq, rfl⟩ := List.mem_map.1 hv
    exact List.mem_range.2 (hl.rng q hq))
  simpa using this
theorem thin_few {n N : Nat} {X : List (List Nat)} (h : LvOk n N X) : (thinL X).length ≤ n := ends_few (thin_ends_go (by simp [EndsD])) h.thin
theorem Lv_ok {E : Nat → List Nat} {n s : Nat} (hE : ∀ a b, a < n → b ∈ E a → b < n) (hs : s < n) : ∀ i, LvOk n (i + 1) (Lv E s i)
  | 0 => ⟨fun q hq => by rw [Lv, List.mem_singleton] at hq; rw [hq]; rfl, by omega, fun q hq => by rw [Lv, List.mem_singleton] at hq; rw [hq]; exact hs⟩
  | i + 1 => ((Lv_ok hE hs i).ext hE).thin
theorem Lv_few {E : Nat → List Nat} {n s : Nat} (hE : ∀ a b, a < n → b ∈ E a → b < n) (hs : s < n) : ∀ i, (Lv E s i).length ≤ n
  | 0 => by rw [Lv]; simp; omega
  | i + 1 => thin_few ((Lv_ok hE hs i).ext hE)
theorem Cv_ok {E : Nat → List Nat} {n t : Nat} (hE : ∀ a b, a < n → b ∈ E a → b < n) (ht : t < n) : ∀ i, LvOk n (i + 2) (Cv E t i)
  | 0 => (Lv_ok hE ht 0).ext hE
  | i + 1 => ((Cv_ok hE ht i).ext hE).thin

end Go.Proofs.Ytknfdpkfomlckaa
