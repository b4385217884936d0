/- Plain law: what the search for components keeps. No program. -/
import Derived.Test.YtknfdpkfomlckaaLib
namespace Go.Proofs.Ytknfdpkfomlckaa

/-- Paths of a graph given by its lists of successors. -/
inductive Path (E : Nat → List Nat) : Nat → Nat → Prop
  | refl (a : Nat) : Path E a a
  | step {a b c : Nat} : b ∈ E a → Path E b c → Path E a c

theorem Path.trans {E : Nat → List Nat} {a b c : Nat} (h : Path E a b) (k : Path E b c) : Path E a c := by
  induction h with
  | refl => exact k
  | step e _ ih => exact .step e (ih k)
theorem Path.one {E : Nat → List Nat} {a b : Nat} (h : b ∈ E a) : Path E a b := .step h (.refl b)
theorem Path.closed {E : Nat → List Nat} {P : Nat → Prop} (hP : ∀ a b, P a → b ∈ E a → P b) {a b : Nat} (h : Path E a b) (ha : P a) : P b := by
  induction h with
  | refl => exact ha
  | step e _ ih => exact ih (hP _ _ ha e)

namespace Tj
structure St where
  idx : List Int
  low : List Int
  out : List Int
  cnt : Nat
  opn : List Nat
  path : List (Nat × Nat)

def ix (l : List Int) (v : Nat) : Int := l.getD v 0
theorem ix_set (l : List Int) (v u : Nat) (x : Int) (hv : v < l.length) : ix (l.set v x) u = if u = v then x else ix l u := by
  unfold ix
  rw [List.getD_eq_getElem?_getD, List.getElem?_set]
  split
  · rename_i h
    subst h
    simp
  · rename_i h
    rw [if_neg (fun e => h e.symm), List.getD_eq_getElem?_getD]
theorem ix_get {l : List Int} {v : Nat} {x : Int} (h : l[v]? = some x) : ix l v = x := by
  unfold ix
  rw [List.getD_eq_getElem?_getD, h]
  rfl

def Done (E : Nat → List Nat) (st : St) (s k : Nat) : Prop := ∀ i w, i < k → (E s)[i]? = some w → 0 < ix st.idx w ∧ (w ∈ st.opn → ix st.low s ≤ ix st.idx w)

def PathOk (E : Nat → List Nat) (st : St) : Option Nat → List (Nat × Nat) → Prop
  | _, [] => True
  | none, (s, k) :: r => s ∈ st.opn ∧ Done E st s k ∧ (∀ q ∈ r, ix st.idx q.1 < ix st.idx s) ∧ PathOk E st (some s) r
  | some t, (s, k) :: r => s ∈ st.opn ∧ (1 ≤ k ∧ (E s)[k - 1]? = some t ∧ Done E st s (k - 1)) ∧ (∀ q ∈ r, ix st.idx q.1 < ix st.idx s) ∧ PathOk E st (some s) r

def onPath (st : St) (v : Nat) : Prop := ∃ q ∈ st.path, q.1 = v

structure Inv (E : Nat → List Nat) (n : Nat) (st : St) (c : Option Nat) : Prop where
  li : st.idx.length = n
  ll : st.low.length = n
  lo : st.out.length = n
  edge : ∀ a b, a < n → b ∈ E a → b < n
  opn : ∀ v, v ∈ st.opn ↔ v < n ∧ 0 < ix st.idx v ∧ ix st.out v < 0
  asc : st.opn.Pairwise (fun a b => ix st.idx a < ix st.idx b)
  cnt : ∀ v, ix st.idx v ≤ st.cnt
  pos : ∀ v, v < n → 0 ≤ ix st.idx v
  low : ∀ v ∈ st.opn, ix st.low v ≤ ix st.idx v ∧ ∃ w ∈ st.opn, ix st.idx w = ix st.low v ∧ Path E v w
  fin : ∀ v ∈ st.opn, ¬ onPath st v → Done E st v (E v).length ∧ ix st.low v < ix st.idx v
  rch : ∀ p v, onPath st p → v ∈ st.opn → ix st.idx p ≤ ix st.idx v → Path E p v
  last : ∀ v ∈ st.opn, ¬ onPath st v → ∀ p, onPath st p → ix st.idx p < ix st.idx v → (∀ q, onPath st q → ix st.idx q < ix st.idx v → ix st.idx q ≤ ix st.idx p) → ix st.low p ≤ ix st.low v
  path : PathOk E st c st.path
  first : ∀ v ∈ st.opn, ∃ p, onPath st p ∧ ix st.idx p ≤ ix st.idx v
  clo : ∀ v, v < n → 0 ≤ ix st.out v → 0 < ix st.idx v ∧ (∀ w ∈ E v, 0 ≤ ix st.out w) ∧ (∃ m : Nat, ix st.out v = m ∧ m < n ∧ Path E v m ∧ Path E m v) ∧ ∀ u, Path E v u → Path E u v → ix st.out v ≤ u
  fr : ∀ t, c = some t → t < n ∧ ix st.idx t = 0

theorem PathOk.opn {E : Nat → List Nat} {st : St} : ∀ {c : Option Nat} {l : List (Nat × Nat)}, PathOk E st c l → ∀ q ∈ l, q.1 ∈ st.opn
  | _, [], _, q, hq => by cases hq
  | none, (s, k) :: r, h, q, hq => by
    rcases List.mem_cons.1 hq with rfl | hq
    · exact h.1
    · exact h.2.2.2.opn q hq
  | some t, (s, k) :: r, h, q, hq => by
    rcases List.mem_cons.1 hq with rfl | hq
    · exact h.1
    · exact h.2.2.2.opn q hq
theorem PathOk.mono {E : Nat → List Nat} {st st' : St} (hd : ∀ s k, s ∈ st.opn → Done E st s k → Done E st' s k) (ho : ∀ s ∈ st.opn, s ∈ st'.opn) (hi : ∀ s ∈ st.opn, ix st'.idx s = ix st.idx s) :
    ∀ {c : Option Nat} {l : List (Nat × Nat)}, PathOk E st c l → PathOk E st' c l
  | _, [], _ => by simp [PathOk]
  | none, (s, k) :: r, h => ⟨ho s h.1, hd s k h.1 h.2.1, fun q hq => by rw [hi s h.1, hi q.1 (h.2.2.2.opn q hq)]; exact h.2.2.1 q hq, h.2.2.2.mono hd ho hi⟩
  | some t, (s, k) :: r, h => ⟨ho s h.1, ⟨h.2.1.1, h.2.1.2.1, hd s _ h.1 h.2.1.2.2⟩, fun q hq => by rw [hi s h.1, hi q.1 (h.2.2.2.opn q hq)]; exact h.2.2.1 q hq, h.2.2.2.mono hd ho hi⟩

/-- The least index. -/
theorem Inv.distinct {E : Nat → List Nat} {n : Nat} {st : St} {c : Option Nat} (h : Inv E n st c) {a b : Nat} (ha : a ∈ st.opn) (hb : b ∈ st.opn) (he : ix st.idx a = ix st.idx b) : a = b := by
  obtain ⟨i, hi, rfl⟩ := List.getElem_of_mem ha
  obtain ⟨j, hj, rfl⟩ := List.getElem_of_mem hb
  rcases Nat.lt_trichotomy i j with h1 | h1 | h1
  · have := List.pairwise_iff_getElem.1 h.asc i j hi hj h1; omega
  · subst h1; rfl
  · have := List.pairwise_iff_getElem.1 h.asc j i hj hi h1; omega

/-- Nothing open: a new root. -/
theorem Inv.root {E : Nat → List Nat} {n : Nat} {st : St} (h : Inv E n st none) (hp : st.path = []) {r : Nat} (hr : r < n) (h0 : ix st.idx r = 0) : Inv E n st (some r) :=
  ⟨h.li, h.ll, h.lo, h.edge, h.opn, h.asc, h.cnt, h.pos, h.low, h.fin, h.rch, h.last, by rw [hp]; simp [PathOk], h.first, h.clo, fun t ht => by cases ht; exact ⟨hr, h0⟩⟩

/-- The state t is visited. -/
theorem Inv.visit {E : Nat → List Nat} {n : Nat} {st : St} {t : Nat} (h : Inv E n st (some t)) :
    Inv E n { st with idx := st.idx.set t (st.cnt + 1 : Int), low := st.low.set t (st.cnt + 1 : Int), cnt := st.cnt + 1, opn := st.opn ++ [t], path := (t, 0) :: st.path } none := by
  obtain ⟨ht, h0⟩ := h.fr t rfl
  have hi : ∀ u, ix (st.idx.set t (st.cnt + 1 : Int)) u = if u = t then (st.cnt + 1 : Int) else ix st.idx u := fun u => ix_set _ _ _ _ (by rw [h.li]; exact ht)
  have hl : ∀ u, ix (st.low.set t (st.cnt + 1 : Int)) u = if u = t then (st.cnt + 1 : Int) else ix st.low u := fun u => ix_set _ _ _ _ (by rw [h.ll]; exact ht)
  have htn : t ∉ st.opn := fun hm => by have := ((h.opn t).1 hm).2.1; omega
  have hout : ix st.out t < 0 := by
    rcases (show ix st.out t < 0 ∨ 0 ≤ ix st.out t by omega) with h1 | h1
    · exact h1
    · have := (h.clo t ht h1).1; omega
  have hne : ∀ u ∈ st.opn, u ≠ t := fun u hu e => htn (e ▸ hu)
  have hio : ∀ u ∈ st.opn, ix (st.idx.set t (st.cnt + 1 : Int)) u = ix st.idx u := fun u hu => by rw [hi, if_neg (hne u hu)]
  have hlo : ∀ u ∈ st.opn, ix (st.low.set t (st.cnt + 1 : Int)) u = ix st.low u := fun u hu => by rw [hl, if_neg (hne u hu)]
  have hpo : ∀ p, onPath st p → p ∈ st.opn := fun p ⟨q, hq, e⟩ => e ▸ h.path.opn q hq
  have hdone : ∀ s k, s ∈ st.opn → Done E st s k → Done E { st with idx := st.idx.set t (st.cnt + 1 : Int), low := st.low.set t (st.cnt + 1 : Int), cnt := st.cnt + 1, opn := st.opn ++ [t], path := (t, 0) :: st.path } s k := by
    intro s k hs hd i w hi1 hw
    have h1 := hd i w hi1 hw
    have hwt : w ≠ t := fun e => by rw [e, h0] at h1; omega
    refine ⟨?_, fun hm => ?_⟩
    · show 0 < ix (st.idx.set t (st.cnt + 1 : Int)) w
      rw [hi, if_neg hwt]; exact h1.1
    · show ix (st.low.set t (st.cnt + 1 : Int)) s ≤ ix (st.idx.set t (st.cnt + 1 : Int)) w
      rw [hi, if_neg hwt, hlo s hs]
      refine h1.2 ?_
      rcases List.mem_append.1 hm with hm | hm
      · exact hm
      · exact absurd (List.mem_singleton.1 hm) hwt
  have hon : ∀ p, onPath { st with idx := st.idx.set t (st.cnt + 1 : Int), low := st.low.set t (st.cnt + 1 : Int), cnt := st.cnt + 1, opn := st.opn ++ [t], path := (t, 0) :: st.path } p ↔ p = t ∨ onPath st p := fun p => by
    constructor
    · rintro ⟨q, hq, e⟩
      rcases List.mem_cons.1 hq with rfl | hq
      · exact .inl e.symm
      · exact .inr ⟨q, hq, e⟩
    · rintro (rfl | ⟨q, hq, e⟩)
      · exact ⟨(p, 0), List.mem_cons_self .., rfl⟩
      · exact ⟨q, List.mem_cons_of_mem _ hq, e⟩
  have hcnt := h.cnt
  have hmem : ∀ v, v ∈ st.opn ++ [t] ↔ v ∈ st.opn ∨ v = t := fun v => by rw [List.mem_append, List.mem_singleton]
  have hreach : ∀ p, onPath st p → Path E p t := by
    intro p hp
    cases hpath : st.path with
    | nil => obtain ⟨q, hq, _⟩ := hp; rw [hpath] at hq; cases hq
    | cons a r =>
      obtain ⟨s, k⟩ := a
      have hok := h.path
      rw [hpath] at hok
      have hedge : t ∈ E s := List.mem_of_getElem? hok.2.1.2.1
      have hs : onPath st s := ⟨(s, k), by rw [hpath]; exact List.mem_cons_self .., rfl⟩
      have hle : ix st.idx p ≤ ix st.idx s := by
        obtain ⟨q, hq, rfl⟩ := hp
        rw [hpath] at hq
        rcases List.mem_cons.1 hq with rfl | hq
        · exact Int.le_refl _
        · have := hok.2.2.1 q hq; omega
      exact (h.rch p s hp hok.1 hle).trans (.one hedge)
  refine ⟨by simp [h.li], by simp [h.ll], h.lo, h.edge, fun v => ?_, ?_, fun v => ?_, fun v hv => ?_, fun v hv => ?_, fun v hv hn => ?_, fun p v hp hv hle => ?_, fun v hv hn p hp hlt hmax => ?_, ?_, fun v hv => ?_, fun v hv hc => ?_, fun t' ht' => by cases ht'⟩
  · show v ∈ st.opn ++ [t] ↔ v < n ∧ 0 < ix (st.idx.set t (st.cnt + 1 : Int)) v ∧ ix st.out v < 0
    rw [hmem, hi]
    by_cases hv : v = t
    · subst hv
      rw [if_pos rfl]
      exact ⟨fun _ => ⟨ht, by omega, hout⟩, fun _ => .inr rfl⟩
    · rw [if_neg hv, ← h.opn v]
      exact ⟨fun h1 => h1.elim id (fun e => absurd e hv), .inl⟩
  · show (st.opn ++ [t]).Pairwise (fun a b => ix (st.idx.set t (st.cnt + 1 : Int)) a < ix (st.idx.set t (st.cnt + 1 : Int)) b)
    rw [List.pairwise_append]
    refine ⟨?_, by simp, fun a ha b hb => ?_⟩
    · refine h.asc.imp_of_mem (fun {a b} ha hb hab => ?_)
      rw [hio a ha, hio b hb]; exact hab
    · rw [List.mem_singleton] at hb
      subst hb
      rw [hio a ha, hi, if_pos rfl]
      have := hcnt a
      omega
  · show ix (st.idx.set t (st.cnt + 1 : Int)) v ≤ ((st.cnt + 1 : Nat) : Int)
    rw [hi]
    split
    · omega
    · have := hcnt v; omega
  · show 0 ≤ ix (st.idx.set t (st.cnt + 1 : Int)) v
    rw [hi]
    split
    · omega
    · exact h.pos v hv
  · show ix (st.low.set t (st.cnt + 1 : Int)) v ≤ ix (st.idx.set t (st.cnt + 1 : Int)) v ∧ ∃ w ∈ st.opn ++ [t], ix (st.idx.set t (st.cnt + 1 : Int)) w = ix (st.low.set t (st.cnt + 1 : Int)) v ∧ Path E v w
    rcases (hmem v).1 hv with hv1 | rfl
    · rw [hio v hv1, hlo v hv1]
      obtain ⟨h1, w, hw, h2, h3⟩ := h.low v hv1
      exact ⟨h1, w, (hmem w).2 (.inl hw), by rw [hio w hw]; exact h2, h3⟩
    · rw [hi, hl, if_pos rfl]
      exact ⟨by simp, v, (hmem v).2 (.inr rfl), by rw [hi, if_pos rfl], .refl v⟩
  · rcases (hmem v).1 hv with hv1 | rfl
    · have hn' : ¬ onPath st v := fun hh => hn ((hon v).2 (.inr hh))
      have h1 := h.fin v hv1 hn'
      refine ⟨hdone v _ hv1 h1.1, ?_⟩
      show ix (st.low.set t (st.cnt + 1 : Int)) v < ix (st.idx.set t (st.cnt + 1 : Int)) v
      rw [hio v hv1, hlo v hv1]; exact h1.2
    · exact absurd ((hon v).2 (.inl rfl)) hn
  · have hle' : ix (st.idx.set t (st.cnt + 1 : Int)) p ≤ ix (st.idx.set t (st.cnt + 1 : Int)) v := hle
    rcases (hmem v).1 hv with hv1 | rfl
    · rcases (hon p).1 hp with rfl | hp
      · rw [hi, if_pos rfl, hio v hv1] at hle'
        have := hcnt v
        omega
      · rw [hio v hv1, hio p (hpo p hp)] at hle'
        exact h.rch p v hp hv1 hle'
    · rcases (hon p).1 hp with rfl | hp
      · exact .refl _
      · exact hreach p hp
  · have hlt' : ix (st.idx.set t (st.cnt + 1 : Int)) p < ix (st.idx.set t (st.cnt + 1 : Int)) v := hlt
    show ix (st.low.set t (st.cnt + 1 : Int)) p ≤ ix (st.low.set t (st.cnt + 1 : Int)) v
    rcases (hmem v).1 hv with hv1 | rfl
    · have hn' : ¬ onPath st v := fun hh => hn ((hon v).2 (.inr hh))
      rcases (hon p).1 hp with rfl | hp
      · rw [hi, if_pos rfl, hio v hv1] at hlt'
        have := hcnt v
        omega
      · rw [hio v hv1, hio p (hpo p hp)] at hlt'
        rw [hlo v hv1, hlo p (hpo p hp)]
        refine h.last v hv1 hn' p hp hlt' (fun q hq hqv => ?_)
        have := hmax q ((hon q).2 (.inr hq))
        change ix (st.idx.set t (st.cnt + 1 : Int)) q < ix (st.idx.set t (st.cnt + 1 : Int)) v → ix (st.idx.set t (st.cnt + 1 : Int)) q ≤ ix (st.idx.set t (st.cnt + 1 : Int)) p at this
        rw [hio q (hpo q hq), hio v hv1, hio p (hpo p hp)] at this
        exact this hqv
    · exact absurd ((hon v).2 (.inl rfl)) hn
  · refine ⟨(hmem t).2 (.inr rfl), fun i w hi1 => by omega, fun q hq => ?_, h.path.mono hdone (fun s hs => (hmem s).2 (.inl hs)) hio⟩
    show ix (st.idx.set t (st.cnt + 1 : Int)) q.1 < ix (st.idx.set t (st.cnt + 1 : Int)) t
    have hq' := h.path.opn q hq
    rw [hio q.1 hq', hi, if_pos rfl]
    have := hcnt q.1
    omega
  · rcases (hmem v).1 hv with hv1 | rfl
    · obtain ⟨p, hp, hle⟩ := h.first v hv1
      refine ⟨p, (hon p).2 (.inr hp), ?_⟩
      show ix (st.idx.set t (st.cnt + 1 : Int)) p ≤ ix (st.idx.set t (st.cnt + 1 : Int)) v
      rw [hio v hv1, hio p (hpo p hp)]; exact hle
    · exact ⟨v, (hon v).2 (.inl rfl), Int.le_refl _⟩
  · have h1 := h.clo v hv hc
    refine ⟨?_, h1.2⟩
    show 0 < ix (st.idx.set t (st.cnt + 1 : Int)) v
    rw [hi]
    split
    · omega
    · exact h1.1

end Tj
end Go.Proofs.Ytknfdpkfomlckaa
