/- Merged text: V1, V2, V3, V4 of the notes. -/
import Derived.Test.YtikpcipkkhmcfaaGreatQ00
/- Plain law: what the search for components keeps. No program. -/
namespace Go.Proofs.YtikpcipkkhmcfaaGreat

/-- Paths of a graph given by its lists of successors. -/
inductive Path (E : Nat → List Nat) : Nat → Nat → Prop
 | refl (a : Nat) : Path E a a
 | step {a b c : Nat} : b ∈ E a → Path E b c → Path E a c

theorem Path.trans {E : Nat → List Nat} {a b c : Nat} (h : Path E a b) (k : Path E b c) : Path E a c := by
 induction h with
 | refl => exact k
 | step e _ ih => exact .step e (ih k)
theorem Path.one {E : Nat → List Nat} {a b : Nat} (h : b ∈ E a) : Path E a b := .step h (.refl b)
theorem Path.closed {E : Nat → List Nat} {P : Nat → Prop} (hP : ∀ a b, P a → b ∈ E a → P b) {a b : Nat} (h : Path E a b) (ha : P a) : P b := by
 induction h with
 | refl => exact ha
 | step e _ ih => exact ih (hP _ _ ha e)

namespace Tj
structure St where
 idx : List Int
 low : List Int
 out : List Int
 cnt : Nat
 opn : List Nat
 path : List (Nat × Nat)

def ix (l : List Int) (v : Nat) : Int := l.getD v 0
theorem ix_set (l : List Int) (v u : Nat) (x : Int) (hv : v < l.length) : ix (l.set v x) u = if u = v then x else ix l u := by
 unfold ix
 rw [List.getD_eq_getElem?_getD, List.getElem?_set]
 split
 ·rename_i h
  subst h
  simp
 ·rename_i h
  rw [if_neg (fun e => h e.symm), List.getD_eq_getElem?_getD]
theorem ix_get {l : List Int} {v : Nat} {x : Int} (h : l[v]? = some x) : ix l v = x := by
 unfold ix
 rw [List.getD_eq_getElem?_getD, h]
 rfl

def Done (E : Nat → List Nat) (st : St) (s k : Nat) : Prop := ∀ i w, i < k → (E s)[i]? = some w → 0 < ix st.idx w ∧ (w ∈ st.opn → ix st.low s ≤ ix st.idx w)

def PathOk (E : Nat → List Nat) (st : St) : Option Nat → List (Nat × Nat) → Prop
 | _, [] => True
 | none, (s, k) :: r => s ∈ st.opn ∧ Done E st s k ∧ (∀ q ∈ r, ix st.idx q.1 < ix st.idx s) ∧ PathOk E st (some s) r
 | some t, (s, k) :: r => s ∈ st.opn ∧ (1 ≤ k ∧ (E s)[k - 1]? = some t ∧ Done E st s (k - 1)) ∧ (∀ q ∈ r, ix st.idx q.1 < ix st.idx s) ∧ PathOk E st (some s) r

def onPath (st : St) (v : Nat) : Prop := ∃ q ∈ st.path, q.1 = v

structure Inv (E : Nat → List Nat) (n : Nat) (st : St) (c : Option Nat) : Prop where
 li : st.idx.length = n
 ll : st.low.length = n
 lo : st.out.length = n
 edge : ∀ a b, a < n → b ∈ E a → b < n
 opn : ∀ v, v ∈ st.opn ↔ v < n ∧ 0 < ix st.idx v ∧ ix st.out v < 0
 asc : st.opn.Pairwise (fun a b => ix st.idx a < ix st.idx b)
 cnt : ∀ v, ix st.idx v ≤ st.cnt
 pos : ∀ v, v < n → 0 ≤ ix st.idx v
 low : ∀ v ∈ st.opn, ix st.low v ≤ ix st.idx v ∧ ∃ w ∈ st.opn, ix st.idx w = ix st.low v ∧ Path E v w
 fin : ∀ v ∈ st.opn, ¬ onPath st v → Done E st v (E v).length ∧ ix st.low v < ix st.idx v
 rch : ∀ p v, onPath st p → v ∈ st.opn → ix st.idx p ≤ ix st.idx v → Path E p v
 last : ∀ v ∈ st.opn, ¬ onPath st v → ∀ p, onPath st p → ix st.idx p < ix st.idx v → (∀ q, onPath st q → ix st.idx q < ix st.idx v → ix st.idx q ≤ ix st.idx p) → ix st.low p ≤ ix st.low v
 path : PathOk E st c st.path
 first : ∀ v ∈ st.opn, ∃ p, onPath st p ∧ ix st.idx p ≤ ix st.idx v
 clo : ∀ v, v < n → 0 ≤ ix st.out v → 0 < ix st.idx v ∧ (∀ w ∈ E v, 0 ≤ ix st.out w) ∧ (∃ m : Nat, ix st.out v = m ∧ m < n ∧ Path E v m ∧ Path E m v) ∧ ∀ u, Path E v u → Path E u v → ix st.out v ≤ u
 fr : ∀ t, c = some t → t < n ∧ ix st.idx t = 0

theorem PathOk.opn {E : Nat → List Nat} {st : St} : ∀ {c : Option Nat} {l : List (Nat × Nat)}, PathOk E st c l → ∀ q ∈ l, q.1 ∈ st.opn
 | _, [], _, q, hq => by cases hq
 | none, (s, k) :: r, h, q, hq => by
  rcases List.mem_cons.1 hq with rfl | hq
  ·exact h.1
  ·exact h.2.2.2.opn q hq
 | some t, (s, k) :: r, h, q, hq => by
  rcases List.mem_cons.1 hq with rfl | hq
  ·exact h.1
  ·exact h.2.2.2.opn q hq
theorem PathOk.mono {E : Nat → List Nat} {st st' : St} (hd : ∀ s k, s ∈ st.opn → Done E st s k → Done E st' s k) (ho : ∀ s ∈ st.opn, s ∈ st'.opn) (hi : ∀ s ∈ st.opn, ix st'.idx s = ix st.idx s) :
  ∀ {c : Option Nat} {l : List (Nat × Nat)}, PathOk E st c l → PathOk E st' c l
 | _, [], _ => by simp [PathOk]
 | none, (s, k) :: r, h => ⟨ho s h.1, hd s k h.1 h.2.1, fun q hq => by rw [hi s h.1, hi q.1 (h.2.2.2.opn q hq)]; exact h.2.2.1 q hq, h.2.2.2.mono hd ho hi⟩
 | some t, (s, k) :: r, h => ⟨ho s h.1, ⟨h.2.1.1, h.2.1.2.1, hd s _ h.1 h.2.1.2.2⟩, fun q hq => by rw [hi s h.1, hi q.1 (h.2.2.2.opn q hq)]; exact h.2.2.1 q hq, h.2.2.2.mono hd ho hi⟩

/-- The least index. -/
theorem Inv.distinct {E : Nat → List Nat} {n : Nat} {st : St} {c : Option Nat} (h : Inv E n st c) {a b : Nat} (ha : a ∈ st.opn) (hb : b ∈ st.opn) (he : ix st.idx a = ix st.idx b) : a = b := by
 obtain ⟨i, hi, rfl⟩ := List.getElem_of_mem ha
 obtain ⟨j, hj, rfl⟩ := List.getElem_of_mem hb
 rcases Nat.lt_trichotomy i j with h1 | h1 | h1
 ·have := List.pairwise_iff_getElem.1 h.asc i j hi hj h1; omega
 ·subst h1; rfl
 ·have := List.pairwise_iff_getElem.1 h.asc j i hj hi h1; omega

/-- Nothing open: a new root. -/
theorem Inv.root {E : Nat → List Nat} {n : Nat} {st : St} (h : Inv E n st none) (hp : st.path = []) {r : Nat} (hr : r < n) (h0 : ix st.idx r = 0) : Inv E n st (some r) :=
 ⟨h.li, h.ll, h.lo, h.edge, h.opn, h.asc, h.cnt, h.pos, h.low, h.fin, h.rch, h.last, by rw [hp]; simp [PathOk], h.first, h.clo, fun t ht => by cases ht; exact ⟨hr, h0⟩⟩

/-- The state t is visited. -/
theorem Inv.visit {E : Nat → List Nat} {n : Nat} {st : St} {t : Nat} (h : Inv E n st (some t)) :
  Inv E n { st with idx := st.idx.set t (st.cnt + 1 : Int), low := st.low.set t (st.cnt + 1 : Int), cnt := st.cnt + 1, opn := st.opn ++ [t], path := (t, 0) :: st.path } none := by
 obtain ⟨ht, h0⟩ := h.fr t rfl
 have hi : ∀ u, ix (st.idx.set t (st.cnt + 1 : Int)) u = if u = t then (st.cnt + 1 : Int) else ix st.idx u := fun u => ix_set _ _ _ _ (by rw [h.li]; exact ht)
 have hl : ∀ u, ix (st.low.set t (st.cnt + 1 : Int)) u = if u = t then (st.cnt + 1 : Int) else ix st.low u := fun u => ix_set _ _ _ _ (by rw [h.ll]; exact ht)
 have htn : t ∉ st.opn := fun hm => by have := ((h.opn t).1 hm).2.1; omega
 have hout : ix st.out t < 0 := by
  rcases (show ix st.out t < 0 ∨ 0 ≤ ix st.out t by omega) with h1 | h1
  ·exact h1
  ·have := (h.clo t ht h1).1; omega
 have hne : ∀ u ∈ st.opn, u ≠ t := fun u hu e => htn (e ▸ hu)
 have hio : ∀ u ∈ st.opn, ix (st.idx.set t (st.cnt + 1 : Int)) u = ix st.idx u := fun u hu => by rw [hi, if_neg (hne u hu)]
 have hlo : ∀ u ∈ st.opn, ix (st.low.set t (st.cnt + 1 : Int)) u = ix st.low u := fun u hu => by rw [hl, if_neg (hne u hu)]
 have hpo : ∀ p, onPath st p → p ∈ st.opn := fun p ⟨q, hq, e⟩ => e ▸ h.path.opn q hq
 have hdone : ∀ s k, s ∈ st.opn → Done E st s k → Done E { st with idx := st.idx.set t (st.cnt + 1 : Int), low := st.low.set t (st.cnt + 1 : Int), cnt := st.cnt + 1, opn := st.opn ++ [t], path := (t, 0) :: st.path } s k := by
  intro s k hs hd i w hi1 hw
  have h1 := hd i w hi1 hw
  have hwt : w ≠ t := fun e => by rw [e, h0] at h1; omega
  refine ⟨?_, fun hm => ?_⟩
  ·show 0 < ix (st.idx.set t (st.cnt + 1 : Int)) w
   rw [hi, if_neg hwt]; exact h1.1
  ·show ix (st.low.set t (st.cnt + 1 : Int)) s ≤ ix (st.idx.set t (st.cnt + 1 : Int)) w
   rw [hi, if_neg hwt, hlo s hs]
   refine h1.2 ?_
   rcases List.mem_append.1 hm with hm | hm
   ·exact hm
   ·exact absurd (List.mem_singleton.1 hm) hwt
 have hon : ∀ p, onPath { st with idx := st.idx.set t (st.cnt + 1 : Int), low := st.low.set t (st.cnt + 1 : Int), cnt := st.cnt + 1, opn := st.opn ++ [t], path := (t, 0) :: st.path } p ↔ p = t ∨ onPath st p := fun p => by
  constructor
  ·rintro ⟨q, hq, e⟩
   rcases List.mem_cons.1 hq with rfl | hq
   ·exact .inl e.symm
   ·exact .inr ⟨q, hq, e⟩
  ·rintro (rfl | ⟨q, hq, e⟩)
   ·exact ⟨(p, 0), List.mem_cons_self .., rfl⟩
   ·exact ⟨q, List.mem_cons_of_mem _ hq, e⟩
 have hcnt := h.cnt
 have hmem : ∀ v, v ∈ st.opn ++ [t] ↔ v ∈ st.opn ∨ v = t := fun v => by rw [List.mem_append, List.mem_singleton]
 have hreach : ∀ p, onPath st p → Path E p t := by
  intro p hp
  cases hpath : st.path with
  | nil => obtain ⟨q, hq, _⟩ := hp; rw [hpath] at hq; cases hq
  | cons a r =>
   obtain ⟨s, k⟩ := a
   have hok := h.path
   rw [hpath] at hok
   have hedge : t ∈ E s := List.mem_of_getElem? hok.2.1.2.1
   have hs : onPath st s := ⟨(s, k), by rw [hpath]; exact List.mem_cons_self .., rfl⟩
   have hle : ix st.idx p ≤ ix st.idx s := by
    obtain ⟨q, hq, rfl⟩ := hp
    rw [hpath] at hq
    rcases List.mem_cons.1 hq with rfl | hq
    ·exact Int.le_refl _
    ·have := hok.2.2.1 q hq; omega
   exact (h.rch p s hp hok.1 hle).trans (.one hedge)
 refine ⟨by simp [h.li], by simp [h.ll], h.lo, h.edge, fun v => ?_, ?_, fun v => ?_, fun v hv => ?_, fun v hv => ?_, fun v hv hn => ?_, fun p v hp hv hle => ?_, fun v hv hn p hp hlt hmax => ?_, ?_, fun v hv => ?_, fun v hv hc => ?_, fun t' ht' => by cases ht'⟩
 ·show v ∈ st.opn ++ [t] ↔ v < n ∧ 0 < ix (st.idx.set t (st.cnt + 1 : Int)) v ∧ ix st.out v < 0
  rw [hmem, hi]
  by_cases hv : v = t
  ·subst hv
   rw [if_pos rfl]
   exact ⟨fun _ => ⟨ht, by omega, hout⟩, fun _ => .inr rfl⟩
  ·rw [if_neg hv, ← h.opn v]
   exact ⟨fun h1 => h1.elim id (fun e => absurd e hv), .inl⟩
 ·show (st.opn ++ [t]).Pairwise (fun a b => ix (st.idx.set t (st.cnt + 1 : Int)) a < ix (st.idx.set t (st.cnt + 1 : Int)) b)
  rw [List.pairwise_append]
  refine ⟨?_, by simp, fun a ha b hb => ?_⟩
  ·refine h.asc.imp_of_mem (fun {a b} ha hb hab => ?_)
   rw [hio a ha, hio b hb]; exact hab
  ·rw [List.mem_singleton] at hb
   subst hb
   rw [hio a ha, hi, if_pos rfl]
   have := hcnt a
   omega
 ·show ix (st.idx.set t (st.cnt + 1 : Int)) v ≤ ((st.cnt + 1 : Nat) : Int)
  rw [hi]
  split
  ·omega
  ·have := hcnt v; omega
 ·show 0 ≤ ix (st.idx.set t (st.cnt + 1 : Int)) v
  rw [hi]
  split
  ·omega
  ·exact h.pos v hv
 ·show ix (st.low.set t (st.cnt + 1 : Int)) v ≤ ix (st.idx.set t (st.cnt + 1 : Int)) v ∧ ∃ w ∈ st.opn ++ [t], ix (st.idx.set t (st.cnt + 1 : Int)) w = ix (st.low.set t (st.cnt + 1 : Int)) v ∧ Path E v w
  rcases (hmem v).1 hv with hv1 | rfl
  ·rw [hio v hv1, hlo v hv1]
   obtain ⟨h1, w, hw, h2, h3⟩ := h.low v hv1
   exact ⟨h1, w, (hmem w).2 (.inl hw), by rw [hio w hw]; exact h2, h3⟩
  ·rw [hi, hl, if_pos rfl]
   exact ⟨by simp, v, (hmem v).2 (.inr rfl), by rw [hi, if_pos rfl], .refl v⟩
 ·rcases (hmem v).1 hv with hv1 | rfl
  ·have hn' : ¬ onPath st v := fun hh => hn ((hon v).2 (.inr hh))
   have h1 := h.fin v hv1 hn'
   refine ⟨hdone v _ hv1 h1.1, ?_⟩
   show ix (st.low.set t (st.cnt + 1 : Int)) v < ix (st.idx.set t (st.cnt + 1 : Int)) v
   rw [hio v hv1, hlo v hv1]; exact h1.2
  ·exact absurd ((hon v).2 (.inl rfl)) hn
 ·have hle' : ix (st.idx.set t (st.cnt + 1 : Int)) p ≤ ix (st.idx.set t (st.cnt + 1 : Int)) v := hle
  rcases (hmem v).1 hv with hv1 | rfl
  ·rcases (hon p).1 hp with rfl | hp
   ·rw [hi, if_pos rfl, hio v hv1] at hle'
    have := hcnt v
    omega
   ·rw [hio v hv1, hio p (hpo p hp)] at hle'
    exact h.rch p v hp hv1 hle'
  ·rcases (hon p).1 hp with rfl | hp
   ·exact .refl _
   ·exact hreach p hp
 ·have hlt' : ix (st.idx.set t (st.cnt + 1 : Int)) p < ix (st.idx.set t (st.cnt + 1 : Int)) v := hlt
  show ix (st.low.set t (st.cnt + 1 : Int)) p ≤ ix (st.low.set t (st.cnt + 1 : Int)) v
  rcases (hmem v).1 hv with hv1 | rfl
  ·have hn' : ¬ onPath st v := fun hh => hn ((hon v).2 (.inr hh))
   rcases (hon p).1 hp with rfl | hp
   ·rw [hi, if_pos rfl, hio v hv1] at hlt'
    have := hcnt v
    omega
   ·rw [hio v hv1, hio p (hpo p hp)] at hlt'
    rw [hlo v hv1, hlo p (hpo p hp)]
    refine h.last v hv1 hn' p hp hlt' (fun q hq hqv => ?_)
    have := hmax q ((hon q).2 (.inr hq))
    change ix (st.idx.set t (st.cnt + 1 : Int)) q < ix (st.idx.set t (st.cnt + 1 : Int)) v → ix (st.idx.set t (st.cnt + 1 : Int)) q ≤ ix (st.idx.set t (st.cnt + 1 : Int)) p at this
    rw [hio q (hpo q hq), hio v hv1, hio p (hpo p hp)] at this
    exact this hqv
  ·exact absurd ((hon v).2 (.inl rfl)) hn
 ·refine ⟨(hmem t).2 (.inr rfl), fun i w hi1 => by omega, fun q hq => ?_, h.path.mono hdone (fun s hs => (hmem s).2 (.inl hs)) hio⟩
  show ix (st.idx.set t (st.cnt + 1 : Int)) q.1 < ix (st.idx.set t (st.cnt + 1 : Int)) t
  have hq' := h.path.opn q hq
  rw [hio q.1 hq', hi, if_pos rfl]
  have := hcnt q.1
  omega
 ·rcases (hmem v).1 hv with hv1 | rfl
  ·obtain ⟨p, hp, hle⟩ := h.first v hv1
   refine ⟨p, (hon p).2 (.inr hp), ?_⟩
   show ix (st.idx.set t (st.cnt + 1 : Int)) p ≤ ix (st.idx.set t (st.cnt + 1 : Int)) v
   rw [hio v hv1, hio p (hpo p hp)]; exact hle
  ·exact ⟨v, (hon v).2 (.inl rfl), Int.le_refl _⟩
 ·have h1 := h.clo v hv hc
  refine ⟨?_, h1.2⟩
  show 0 < ix (st.idx.set t (st.cnt + 1 : Int)) v
  rw [hi]
  split
  ·omega
  ·exact h1.1

end Tj
end Go.Proofs.YtikpcipkkhmcfaaGreat

/- Plain law: the steps of the search for components. No program. -/
namespace Go.Proofs.YtikpcipkkhmcfaaGreat
namespace Tj

theorem PathOk.same {E : Nat → List Nat} {st : St} {c : Option Nat} {l : List (Nat × Nat)} (h : PathOk E st c l) {st' : St} (h1 : st'.idx = st.idx) (h2 : st'.low = st.low) (h3 : st'.opn = st.opn) : PathOk E st' c l :=
 h.mono (fun s k _ hd i w hi hw => by rw [h1, h2, h3]; exact hd i w hi hw) (fun s hs => by rw [h3]; exact hs) (fun s _ => by rw [h1])

/-- Another path over the same states. -/
theorem Inv.repath {E : Nat → List Nat} {n : Nat} {st : St} {c c' : Option Nat} (h : Inv E n st c) (l : List (Nat × Nat)) (hl : ∀ v, (∃ q ∈ l, q.1 = v) ↔ onPath st v) (hp : PathOk E st c' l) (hf : ∀ t, c' = some t → t < n ∧ ix st.idx t = 0) :
  Inv E n { st with path := l } c' :=
 ⟨h.li, h.ll, h.lo, h.edge, h.opn, h.asc, h.cnt, h.pos, h.low, fun v hv hn => h.fin v hv (fun hh => hn ((hl v).2 hh)), fun p v hp hv => h.rch p v ((hl p).1 hp) hv,
  fun v hv hn p hp hlt hmax => h.last v hv (fun hh => hn ((hl v).2 hh)) p ((hl p).1 hp) hlt (fun q hq => hmax q ((hl q).2 hq)), PathOk.same hp rfl rfl rfl, fun v hv => by
   obtain ⟨p, hp, hle⟩ := h.first v hv
   exact ⟨p, (hl p).2 hp, hle⟩, h.clo, hf⟩

theorem same_states {st : St} {s k k' : Nat} {r : List (Nat × Nat)} (hp : st.path = (s, k) :: r) (v : Nat) : (∃ q ∈ (s, k') :: r, q.1 = v) ↔ onPath st v := by
 unfold onPath
 rw [hp]
 simp

theorem Done.succ {E : Nat → List Nat} {st : St} {s k : Nat} (h : Done E st s k) (hk : ∀ w, (E s)[k]? = some w → 0 < ix st.idx w ∧ (w ∈ st.opn → ix st.low s ≤ ix st.idx w)) : Done E st s (k + 1) := by
 intro i w hi hw
 rcases Nat.lt_or_ge i k with h1 | h1
 ·exact h i w h1 hw
 ·have : i = k := by omega
  subst this
  exact hk w hw

/-- The next arc leads to a state that was not visited. -/
theorem Inv.push {E : Nat → List Nat} {n : Nat} {st : St} (h : Inv E n st none) {s k t : Nat} {r : List (Nat × Nat)} (hp : st.path = (s, k) :: r) (ht : (E s)[k]? = some t) (h0 : ix st.idx t = 0) : Inv E n { st with path := (s, k + 1) :: r } (some t) := by
 have hok := h.path
 rw [hp] at hok
 have hsn : s < n := ((h.opn s).1 hok.1).1
 refine h.repath _ (same_states hp) ⟨hok.1, ⟨by omega, by simpa using ht, by simpa using hok.2.1⟩, hok.2.2.1, hok.2.2.2⟩ (fun t' e => ?_)
 cases e
 exact ⟨h.edge s _ hsn (List.mem_of_getElem? ht), h0⟩

/-- The next arc leads to a closed state. -/
theorem Inv.skip {E : Nat → List Nat} {n : Nat} {st : St} (h : Inv E n st none) {s k t : Nat} {r : List (Nat × Nat)} (hp : st.path = (s, k) :: r) (ht : (E s)[k]? = some t) (h1 : 0 ≤ ix st.out t) : Inv E n { st with path := (s, k + 1) :: r } none := by
 have hok := h.path
 rw [hp] at hok
 have hsn : s < n := ((h.opn s).1 hok.1).1
 have htn := h.edge s _ hsn (List.mem_of_getElem? ht)
 refine h.repath _ (same_states hp) ⟨hok.1, hok.2.1.succ (fun w hw => ?_), hok.2.2.1, hok.2.2.2⟩ (fun t' e => by cases e)
 rw [ht] at hw
 cases hw
 exact ⟨(h.clo t htn h1).1, fun hm => by have := ((h.opn t).1 hm).2.2; omega⟩

/-- Lower a number of the state s on the path: to the index of an open state that s reaches. -/
theorem Inv.lower {E : Nat → List Nat} {n : Nat} {st : St} {c : Option Nat} (h : Inv E n st c) {s w : Nat} (hs : onPath st s) (hw : w ∈ st.opn) (hr : Path E s w) (x : Int) (hx : x = min (ix st.low s) (ix st.idx w)) :
  Inv E n { st with low := st.low.set s x } c := by
 have hso : s ∈ st.opn := by obtain ⟨q, hq, rfl⟩ := hs; exact h.path.opn q hq
 have hsn : s < n := ((h.opn s).1 hso).1
 have hl : ∀ u, ix (st.low.set s x) u = if u = s then x else ix st.low u := fun u => ix_set _ _ _ _ (by rw [h.ll]; exact hsn)
 have hle : ∀ u, ix (st.low.set s x) u ≤ ix st.low u := fun u => by
  rw [hl]
  split
  ·rename_i e; subst e; rw [hx]; omega
  ·omega
 have hdone : ∀ a k, a ∈ st.opn → Done E st a k → Done E { st with low := st.low.set s x } a k := fun a k _ hd i u hi hu => ⟨(hd i u hi hu).1, fun hm => Int.le_trans (hle a) ((hd i u hi hu).2 hm)⟩
 refine ⟨h.li, by simp [h.ll], h.lo, h.edge, h.opn, h.asc, h.cnt, h.pos, fun v hv => ?_, fun v hv hn => ⟨hdone v _ hv (h.fin v hv hn).1, Int.lt_of_le_of_lt (hle v) (h.fin v hv hn).2⟩, h.rch, fun v hv hn p hp hlt hmax => ?_, h.path.mono hdone (fun _ hs => hs) (fun _ _ => rfl), h.first, h.clo, h.fr⟩
 ·refine ⟨Int.le_trans (hle v) (h.low v hv).1, ?_⟩
  show ∃ w ∈ st.opn, ix st.idx w = ix (st.low.set s x) v ∧ Path E v w
  rw [hl]
  split
  ·rename_i e
   subst e
   rw [hx]
   obtain ⟨_, u, hu, h2, h3⟩ := h.low v hv
   rcases (show ix st.low v ≤ ix st.idx w ∨ ix st.idx w ≤ ix st.low v by omega) with h4 | h4
   ·exact ⟨u, hu, by omega, h3⟩
   ·exact ⟨w, hw, by omega, hr⟩
  ·exact (h.low v hv).2
 ·have hvs : v ≠ s := fun e => hn (e ▸ hs)
  show ix (st.low.set s x) p ≤ ix (st.low.set s x) v
  rw [hl v, if_neg hvs]
  exact Int.le_trans (hle p) (h.last v hv hn p hp hlt hmax)

/-- The next arc leads to an open state. -/
theorem Inv.least {E : Nat → List Nat} {n : Nat} {st : St} (h : Inv E n st none) {s k t : Nat} {r : List (Nat × Nat)} (hp : st.path = (s, k) :: r) (ht : (E s)[k]? = some t) (h0 : 0 < ix st.idx t) (h1 : ix st.out t < 0) (x : Int) (hx : x = min (ix st.low s) (ix st.idx t)) :
  Inv E n { st with low := st.low.set s x, path := (s, k + 1) :: r } none := by
 have hok := h.path
 rw [hp] at hok
 have hsn : s < n := ((h.opn s).1 hok.1).1
 have htn := h.edge s _ hsn (List.mem_of_getElem? ht)
 have hto : t ∈ st.opn := (h.opn t).2 ⟨htn, h0, h1⟩
 have h2 := h.lower (s := s) ⟨(s, k), by rw [hp]; exact List.mem_cons_self .., rfl⟩ hto (.one (List.mem_of_getElem? ht)) x hx
 have hp2 : ({ st with low := st.low.set s x } : St).path = (s, k) :: r := hp
 have hok2 := h2.path
 rw [hp2] at hok2
 refine h2.repath _ (same_states hp2) ⟨hok2.1, hok2.2.1.succ (fun w hw => ?_), hok2.2.2.1, PathOk.same hok2.2.2.2 rfl rfl rfl⟩ (fun t' e => by cases e)
 rw [ht] at hw
 cases hw
 refine ⟨h0, fun _ => ?_⟩
 show ix (st.low.set s x) s ≤ ix st.idx t
 rw [ix_set _ _ _ _ (by rw [h.ll]; exact hsn), if_pos rfl, hx]
 omega

/-- The state s is finished and not the first of its component. -/
theorem Inv.pop {E : Nat → List Nat} {n : Nat} {st : St} (h : Inv E n st none) {s k : Nat} {r : List (Nat × Nat)} (hp : st.path = (s, k) :: r) (hk : (E s).length ≤ k) (hne : ix st.low s ≠ ix st.idx s) :
  ∃ u j r', r = (u, j) :: r' ∧ ∀ x, x = min (ix st.low u) (ix st.low s) → Inv E n { st with low := st.low.set u x, path := r } none := by
 have hok := h.path
 rw [hp] at hok
 obtain ⟨hle, w, hw, hwi, hwr⟩ := h.low s hok.1
 have hlt : ix st.low s < ix st.idx s := by omega
 have hsp : onPath st s := ⟨(s, k), by rw [hp]; exact List.mem_cons_self .., rfl⟩
 cases r with
 | nil =>
  obtain ⟨p, ⟨q, hq, rfl⟩, hpl⟩ := h.first w hw
  rw [hp, List.mem_singleton] at hq
  subst hq
  simp only at hpl
  omega
 | cons a r' =>
  obtain ⟨u, j⟩ := a
  refine ⟨u, j, r', rfl, fun x hx => ?_⟩
  have hup : onPath st u := ⟨(u, j), by rw [hp]; simp, rfl⟩
  have huo : u ∈ st.opn := hok.2.2.2.1
  have hedge : s ∈ E u := List.mem_of_getElem? hok.2.2.2.2.1.2.1
  have h2 := h.lower (s := u) hup hw ((Path.one hedge).trans hwr) x (by rw [hx, hwi])
  have hp2 : ({ st with low := st.low.set u x } : St).path = (s, k) :: (u, j) :: r' := hp
  have hok2 := h2.path
  rw [hp2] at hok2
  have hun : u < n := ((h.opn u).1 huo).1
  have hus : u ≠ s := fun e => by have := hok.2.2.1 (u, j) (List.mem_cons_self ..); simp only [e] at this; omega
  have hl : ∀ v, ix (st.low.set u x) v = if v = u then x else ix st.low v := fun v => ix_set _ _ _ _ (by rw [h.ll]; exact hun)
  have hxs : x ≤ ix st.low s := by rw [hx]; omega
  have hon : ∀ v, onPath { st with low := st.low.set u x } v ↔ v = s ∨ ∃ q ∈ (u, j) :: r', q.1 = v := fun v => by
   unfold onPath
   rw [hp2]
   simp [eq_comm]
  have htop : ∀ q ∈ (u, j) :: r', ix st.idx q.1 ≤ ix st.idx u := by
   intro q hq
   rcases List.mem_cons.1 hq with rfl | hq
   ·exact Int.le_refl _
   ·have := hok.2.2.2.2.2.1 q hq; omega
  refine ⟨h2.li, h2.ll, h2.lo, h2.edge, h2.opn, h2.asc, h2.cnt, h2.pos, h2.low, fun v hv hn => ?_, fun p v hp' hv => h2.rch p v ((hon p).2 (.inr hp')) hv, fun v hv hn p hp' hlt' hmax => ?_, ?_, fun v hv => ?_, h2.clo, fun t e => by cases e⟩
  ·by_cases hvs : v = s
   ·subst hvs
    have hd : Done E { st with low := st.low.set u x } v (E v).length := fun i w' hi hw' => hok2.2.1 i w' (by omega) hw'
    refine ⟨hd, ?_⟩
    show ix (st.low.set u x) v < ix st.idx v
    rw [hl, if_neg (fun e => hus e.symm)]
    exact hlt
   ·exact h2.fin v hv (fun hh => by
     rcases (hon v).1 hh with e | hh
     ·exact hvs e
     ·exact hn hh)
  ·have hlt2 : ix st.idx p < ix st.idx v := hlt'
   have hmax2 : ∀ q, (∃ q' ∈ (u, j) :: r', q'.1 = q) → ix st.idx q < ix st.idx v → ix st.idx q ≤ ix st.idx p := hmax
   show ix (st.low.set u x) p ≤ ix (st.low.set u x) v
   by_cases hvs : v = s
   ·subst hvs
    have hpu : p = u := by
     have h3 := hmax2 u ⟨(u, j), List.mem_cons_self .., rfl⟩ (by have := hok.2.2.1 (u, j) (List.mem_cons_self ..); exact this)
     obtain ⟨q, hq, rfl⟩ := hp'
     have h4 := htop q hq
     exact h.distinct (hok.2.2.2.opn q hq) huo (by omega)
    subst hpu
    rw [hl, if_pos rfl, hl, if_neg (fun e => hus e.symm)]
    exact hxs
   ·have hnv : ¬ onPath { st with low := st.low.set u x } v := fun hh => by
     rcases (hon v).1 hh with e | hh
     ·exact hvs e
     ·exact hn hh
    by_cases hsv : ix st.idx s < ix st.idx v
    ·have h3 := h2.last v hv hnv s ((hon s).2 (.inl rfl)) hsv (fun q hq hqv => by
      rcases (hon q).1 hq with rfl | ⟨q', hq', rfl⟩
      ·exact Int.le_refl _
      ·have h4 := htop q' hq'
       have h5 := hok.2.2.1 (u, j) (List.mem_cons_self ..)
       show ix st.idx q'.1 ≤ ix st.idx s
       simp only at h5
       omega)
     have hpu : p = u := by
      have h5 := hok.2.2.1 (u, j) (List.mem_cons_self ..)
      simp only at h5
      have h3 := hmax2 u ⟨(u, j), List.mem_cons_self .., rfl⟩ (by omega)
      obtain ⟨q, hq, rfl⟩ := hp'
      have h4 := htop q hq
      exact h.distinct (hok.2.2.2.opn q hq) huo (by omega)
     subst hpu
     change ix (st.low.set p x) s ≤ ix (st.low.set p x) v at h3
     rw [hl s, if_neg (fun e => hus e.symm)] at h3
     rw [hl p, if_pos rfl]
     omega
    ·refine h2.last v hv hnv p ((hon p).2 (.inr hp')) hlt2 (fun q hq hqv => ?_)
     rcases (hon q).1 hq with rfl | hq'
     ·exact absurd hqv hsv
     ·exact hmax2 q hq' hqv
  ·have h3 := hok2.2.2.2
   refine ⟨h3.1, ?_, h3.2.2.1, PathOk.same h3.2.2.2 rfl rfl rfl⟩
   intro i w' hi hw'
   rcases Nat.lt_or_ge i (j - 1) with h4 | h4
   ·exact h3.2.1.2.2 i w' h4 hw'
   ·have h5 : i = j - 1 := by omega
    subst h5
    rw [h3.2.1.2.1] at hw'
    cases hw'
    refine ⟨((h.opn s).1 hok.1).2.1, fun _ => ?_⟩
    show ix (st.low.set u x) u ≤ ix st.idx s
    rw [hl, if_pos rfl]
    omega
  ·obtain ⟨p, hp', hle'⟩ := h2.first v hv
   rcases (hon p).1 hp' with rfl | hp'
   ·refine ⟨u, ⟨(u, j), List.mem_cons_self .., rfl⟩, ?_⟩
    have h5 := hok.2.2.1 (u, j) (List.mem_cons_self ..)
    change ix st.idx u ≤ ix st.idx v
    change ix st.idx p ≤ ix st.idx v at hle'
    simp only at h5
    omega
   ·exact ⟨p, hp', hle'⟩

end Tj
end Go.Proofs.YtikpcipkkhmcfaaGreat

/- Plain law: a component is closed. No program. -/
namespace Go.Proofs.YtikpcipkkhmcfaaGreat
namespace Tj

theorem PathOk.keep {E : Nat → List Nat} {st st' : St} : ∀ {c : Option Nat} {l : List (Nat × Nat)}, (∀ q ∈ l, ∀ k, Done E st q.1 k → Done E st' q.1 k) → (∀ q ∈ l, q.1 ∈ st'.opn) → (∀ q ∈ l, ix st'.idx q.1 = ix st.idx q.1) → PathOk E st c l → PathOk E st' c l
 | _, [], _, _, _, _ => by simp [PathOk]
 | none, (s, k) :: r, hd, ho, hi, h => ⟨ho (s, k) (List.mem_cons_self ..), hd (s, k) (List.mem_cons_self ..) k h.2.1, fun q hq => by
   have h1 := hi q (List.mem_cons_of_mem _ hq)
   have h2 := hi (s, k) (List.mem_cons_self ..)
   simp only at h2
   rw [h1, h2]; exact h.2.2.1 q hq, h.2.2.2.keep (fun q hq => hd q (List.mem_cons_of_mem _ hq)) (fun q hq => ho q (List.mem_cons_of_mem _ hq)) (fun q hq => hi q (List.mem_cons_of_mem _ hq))⟩
 | some t, (s, k) :: r, hd, ho, hi, h => ⟨ho (s, k) (List.mem_cons_self ..), ⟨h.2.1.1, h.2.1.2.1, hd (s, k) (List.mem_cons_self ..) _ h.2.1.2.2⟩, fun q hq => by
   have h1 := hi q (List.mem_cons_of_mem _ hq)
   have h2 := hi (s, k) (List.mem_cons_self ..)
   simp only at h2
   rw [h1, h2]; exact h.2.2.1 q hq, h.2.2.2.keep (fun q hq => hd q (List.mem_cons_of_mem _ hq)) (fun q hq => ho q (List.mem_cons_of_mem _ hq)) (fun q hq => hi q (List.mem_cons_of_mem _ hq))⟩
termination_by structural _ l => l

theorem Inv.seg {E : Nat → List Nat} {n : Nat} {st : St} {c : Option Nat} (h : Inv E n st c) {s p : Nat} (hs : st.opn[p]? = some s) (v : Nat) : (v ∈ st.opn.drop p ↔ v ∈ st.opn ∧ ix st.idx s ≤ ix st.idx v) ∧ (v ∈ st.opn.take p ↔ v ∈ st.opn ∧ ix st.idx v < ix st.idx s) := by
 have hsplit : st.opn = st.opn.take p ++ st.opn.drop p := (List.take_append_drop p st.opn).symm
 have hd : st.opn.drop p = s :: st.opn.drop (p + 1) := by
  obtain ⟨hi, rfl⟩ := List.getElem?_eq_some_iff.1 hs
  exact List.drop_eq_getElem_cons hi
 have hasc := h.asc
 rw [hsplit, List.pairwise_append, hd] at hasc
 have h1 : ∀ u ∈ st.opn.drop p, ix st.idx s ≤ ix st.idx u := fun u hu => by
  rw [hd] at hu
  rcases List.mem_cons.1 hu with rfl | hu
  ·exact Int.le_refl _
  ·have := (List.pairwise_cons.1 hasc.2.1).1 u hu; omega
 have h2 : ∀ u ∈ st.opn.take p, ix st.idx u < ix st.idx s := fun u hu => hasc.2.2 u hu s (List.mem_cons_self ..)
 have hm : v ∈ st.opn ↔ v ∈ st.opn.take p ∨ v ∈ st.opn.drop p := by
  rw [← List.mem_append, List.take_append_drop]
 constructor
 ·constructor
  ·intro hv; exact ⟨hm.2 (.inr hv), h1 v hv⟩
  ·rintro ⟨hv, hle⟩
   rcases hm.1 hv with hv | hv
   ·have := h2 v hv; omega
   ·exact hv
 ·constructor
  ·intro hv; exact ⟨hm.2 (.inl hv), h2 v hv⟩
  ·rintro ⟨hv, hle⟩
   rcases hm.1 hv with hv | hv
   ·exact hv
   ·have := h1 v hv; omega

theorem Inv.close {E : Nat → List Nat} {n : Nat} {st : St} (h : Inv E n st none) {s k p : Nat} {r : List (Nat × Nat)} (hp : st.path = (s, k) :: r) (hk : (E s).length ≤ k) (heq : ix st.low s = ix st.idx s) (hs : st.opn[p]? = some s)
  (out' : List Int) (L : Int) (hlen : out'.length = n) (hout : ∀ v, v < n → ix out' v = if v ∈ st.opn.drop p then L else ix st.out v) (hL1 : ∃ m ∈ st.opn.drop p, L = (m : Int)) (hL2 : ∀ m ∈ st.opn.drop p, L ≤ (m : Int)) :
  Inv E n { st with out := out', opn := st.opn.take p, path := r } none := by
 have hok := h.path
 rw [hp] at hok
 have hseg := fun v => (h.seg hs v).1
 have hpre := fun v => (h.seg hs v).2
 have hn : ∀ v ∈ st.opn, v < n := fun v hv => ((h.opn v).1 hv).1
 have hsp : onPath st s := ⟨(s, k), by rw [hp]; exact List.mem_cons_self .., rfl⟩
 have hon : ∀ v, onPath st v ↔ v = s ∨ ∃ q ∈ r, q.1 = v := fun v => by
  unfold onPath
  rw [hp]
  simp [eq_comm]
 have hrlt : ∀ q ∈ r, ix st.idx q.1 < ix st.idx s := hok.2.2.1
 have hA1 : ∀ v ∈ st.opn.drop p, Path E s v := fun v hv => h.rch s v hsp ((hseg v).1 hv).1 ((hseg v).1 hv).2
 have hnp : ∀ v ∈ st.opn.drop p, v ≠ s → ¬ onPath st v := fun v hv hne hh => by
  rcases (hon v).1 hh with e | ⟨q, hq, rfl⟩
  ·exact hne e
  ·have := hrlt q hq
   have := ((hseg q.1).1 hv).2
   omega
 have hA2 : ∀ v ∈ st.opn.drop p, ix st.idx s ≤ ix st.low v := fun v hv => by
  by_cases hvs : v = s
  ·rw [hvs, heq]; exact Int.le_refl _
  ·have h1 := (hseg v).1 hv
   have hlt : ix st.idx s < ix st.idx v := by
    rcases (show ix st.idx s < ix st.idx v ∨ ix st.idx v = ix st.idx s by omega) with h2 | h2
    ·exact h2
    ·exact absurd (h.distinct h1.1 hok.1 h2) hvs
   rw [← heq]
   refine h.last v h1.1 (hnp v hv hvs) s hsp hlt (fun q hq _ => ?_)
   rcases (hon q).1 hq with rfl | ⟨q', hq', rfl⟩
   ·exact Int.le_refl _
   ·have := hrlt q' hq'; omega
 have hA3 : ∀ (d : Nat) (v : Nat), v ∈ st.opn.drop p → (ix st.idx v).toNat ≤ d → Path E v s := by
  intro d
  induction d with
  | zero =>
   intro v hv hd
   have := ((h.opn v).1 ((hseg v).1 hv).1).2.1
   omega
  | succ d ih =>
   intro v hv hd
   by_cases hvs : v = s
   ·rw [hvs]; exact .refl _
   ·have h1 := (hseg v).1 hv
    have h2 := h.fin v h1.1 (hnp v hv hvs)
    obtain ⟨_, w, hw, hwi, hwr⟩ := h.low v h1.1
    have h3 := hA2 v hv
    have hws : w ∈ st.opn.drop p := (hseg w).2 ⟨hw, by omega⟩
    have := ((h.opn w).1 hw).2.1
    exact hwr.trans (ih w hws (by omega))
 have hA3' : ∀ v ∈ st.opn.drop p, Path E v s := fun v hv => hA3 _ v hv (Nat.le_refl _)
 have hdone : ∀ v ∈ st.opn.drop p, Done E st v (E v).length := fun v hv => by
  by_cases hvs : v = s
  ·subst hvs
   exact fun i w hi hw => hok.2.1 i w (by omega) hw
  ·exact (h.fin v ((hseg v).1 hv).1 (hnp v hv hvs)).1
 have hA4 : ∀ a b, (a < n ∧ (a ∈ st.opn.drop p ∨ 0 ≤ ix st.out a)) → b ∈ E a → (b < n ∧ (b ∈ st.opn.drop p ∨ 0 ≤ ix st.out b)) := by
  rintro a b ⟨han, ha | ha⟩ hb
  ·refine ⟨h.edge a b han hb, ?_⟩
   obtain ⟨i, hi, rfl⟩ := List.getElem_of_mem hb
   have h1 := hdone a ha i _ hi (List.getElem?_eq_getElem hi)
   rcases (show ix st.out (E a)[i] < 0 ∨ 0 ≤ ix st.out (E a)[i] by omega) with h2 | h2
   ·have h3 := (h.opn _).2 ⟨h.edge a _ han hb, h1.1, h2⟩
    exact .inl ((hseg _).2 ⟨h3, Int.le_trans (hA2 a ha) (h1.2 h3)⟩)
   ·exact .inr h2
  ·exact ⟨h.edge a b han hb, .inr ((h.clo a han ha).2.1 b hb)⟩
 have hL0 : 0 ≤ L := by obtain ⟨m, _, hm⟩ := hL1; omega
 have hge : ∀ v, v < n → (v ∈ st.opn.drop p ∨ 0 ≤ ix st.out v) → 0 ≤ ix out' v := fun v hv hc => by
  rw [hout v hv]
  split
  ·exact hL0
  ·rename_i h1
   exact hc.resolve_left h1
 have hpreout : ∀ v ∈ st.opn.take p, v ∉ st.opn.drop p := fun v hv hd => by
  have := ((hpre v).1 hv).2
  have := ((hseg v).1 hd).2
  omega
 have hmonod : ∀ a j, Done E st a j → Done E { st with out := out', opn := st.opn.take p, path := r } a j := fun a j hd i w hi hw => ⟨(hd i w hi hw).1, fun hm => (hd i w hi hw).2 ((hpre w).1 hm).1⟩
 have hronp : ∀ q ∈ r, q.1 ∈ st.opn.take p := fun q hq => (hpre q.1).2 ⟨hok.2.2.2.opn q hq, hrlt q hq⟩
 refine ⟨h.li, h.ll, hlen, h.edge, fun v => ?_, h.asc.sublist (List.take_sublist _ _), h.cnt, h.pos, fun v hv => ?_, fun v hv hnv => ?_, fun a v ha hv => h.rch a v ((hon a).2 (.inr ha)) ((hpre v).1 hv).1, fun v hv hnv a ha hlt hmax => ?_, ?_, fun v hv => ?_, fun v hv hc => ?_, fun t e => by cases e⟩
 ·show v ∈ st.opn.take p ↔ v < n ∧ 0 < ix st.idx v ∧ ix out' v < 0
  constructor
  ·intro hv
   have h1 := (hpre v).1 hv
   have h2 := (h.opn v).1 h1.1
   refine ⟨h2.1, h2.2.1, ?_⟩
   rw [hout v h2.1, if_neg (hpreout v hv)]
   exact h2.2.2
  ·rintro ⟨h1, h2, h3⟩
   rw [hout v h1] at h3
   split at h3
   ·omega
   ·rename_i h4
    have h5 := (h.opn v).2 ⟨h1, h2, h3⟩
    refine (hpre v).2 ⟨h5, ?_⟩
    rcases (show ix st.idx v < ix st.idx s ∨ ix st.idx s ≤ ix st.idx v by omega) with h6 | h6
    ·exact h6
    ·exact absurd ((hseg v).2 ⟨h5, h6⟩) h4
 ·have h1 := (hpre v).1 hv
  obtain ⟨h2, w, hw, hwi, hwr⟩ := h.low v h1.1
  exact ⟨h2, w, (hpre w).2 ⟨hw, by omega⟩, hwi, hwr⟩
 ·have h1 := (hpre v).1 hv
  have h2 := h.fin v h1.1 (fun hh => by
   rcases (hon v).1 hh with rfl | hh
   ·omega
   ·exact hnv hh)
  exact ⟨hmonod v _ h2.1, h2.2⟩
 ·have h1 := (hpre v).1 hv
  refine h.last v h1.1 (fun hh => ?_) a ((hon a).2 (.inr ha)) hlt (fun q hq hqv => ?_)
  ·rcases (hon v).1 hh with rfl | hh
   ·omega
   ·exact hnv hh
  ·rcases (hon q).1 hq with rfl | hq
   ·omega
   ·exact hmax q hq hqv
 ·cases r with
  | nil => simp [PathOk]
  | cons a r' =>
   obtain ⟨u, j⟩ := a
   have h3 := hok.2.2.2
   have h4 := PathOk.keep (st' := { st with out := out', opn := st.opn.take p, path := (u, j) :: r' }) (fun q _ j' hd => hmonod q.1 j' hd) hronp (fun q _ => rfl) h3
   refine ⟨h4.1, ?_, h4.2.2.1, h4.2.2.2⟩
   intro i w hi hw
   rcases Nat.lt_or_ge i (j - 1) with h5 | h5
   ·exact h4.2.1.2.2 i w h5 hw
   ·have h6 : i = j - 1 := by omega
    subst h6
    rw [h4.2.1.2.1] at hw
    cases hw
    exact ⟨((h.opn s).1 hok.1).2.1, fun hm => by have := ((hpre s).1 hm).2; omega⟩
 ·have h1 := (hpre v).1 hv
  obtain ⟨a, ha, hle⟩ := h.first v h1.1
  rcases (hon a).1 ha with rfl | ha
  ·omega
  ·exact ⟨a, ha, hle⟩
 ·have hc' : 0 ≤ ix out' v := hc
  by_cases hvs : v ∈ st.opn.drop p
  ·have hvo := (h.opn v).1 ((hseg v).1 hvs).1
   obtain ⟨m, hm, hLm⟩ := hL1
   refine ⟨hvo.2.1, fun w hw => ?_, ⟨m, ?_, hn m ((hseg m).1 hm).1, (hA3' v hvs).trans (hA1 m hm), (hA3' m hm).trans (hA1 v hvs)⟩, fun u hu1 hu2 => ?_⟩
   ·have := hA4 v w ⟨hv, .inl hvs⟩ hw
    exact hge w this.1 this.2
   ·show ix out' v = m
    rw [hout v hv, if_pos hvs, hLm]
   ·show ix out' v ≤ u
    rw [hout v hv, if_pos hvs]
    have h1 := hu1.closed (P := fun a => a < n ∧ (a ∈ st.opn.drop p ∨ 0 ≤ ix st.out a)) hA4 ⟨hv, .inl hvs⟩
    rcases h1.2 with h2 | h2
    ·exact hL2 u h2
    ·have h3 := hu2.closed (P := fun a => a < n ∧ 0 ≤ ix st.out a) (fun a b hab hb => ⟨h.edge a b hab.1 hb, (h.clo a hab.1 hab.2).2.1 b hb⟩) ⟨h1.1, h2⟩
     have := hvo.2.2
     omega
  ·rw [hout v hv, if_neg hvs] at hc'
   have h1 := h.clo v hv hc'
   refine ⟨h1.1, fun w hw => ?_, ?_, ?_⟩
   ·exact hge w (h.edge v w hv hw) (.inr (h1.2.1 w hw))
   ·show ∃ m : Nat, ix out' v = m ∧ _
    rw [hout v hv, if_neg hvs]
    exact h1.2.2.1
   ·intro u hu1 hu2
    show ix out' v ≤ u
    rw [hout v hv, if_neg hvs]
    exact h1.2.2.2 u hu1 hu2

/-- At closing, the number of the state before on the path stays. -/
theorem Inv.close_low {E : Nat → List Nat} {n : Nat} {st : St} (h : Inv E n st none) {s k u j : Nat} {r : List (Nat × Nat)} (hp : st.path = (s, k) :: (u, j) :: r) (heq : ix st.low s = ix st.idx s) : min (ix st.low u) (ix st.low s) = ix st.low u := by
 have hok := h.path
 rw [hp] at hok
 have h1 := (h.low u hok.2.2.2.1).1
 have h2 := hok.2.2.1 (u, j) (List.mem_cons_self ..)
 simp only at h2
 omega

/-- What is found at the end. -/
structure IsComp (E : Nat → List Nat) (n : Nat) (out : List Int) : Prop where
 len : out.length = n
 own : ∀ v, v < n → ∃ m : Nat, ix out v = m ∧ m < n ∧ Path E v m ∧ Path E m v
 least : ∀ v u, v < n → Path E v u → Path E u v → ix out v ≤ u

theorem Inv.comp {E : Nat → List Nat} {n : Nat} {st : St} (h : Inv E n st none) (hp : st.path = []) (hv : ∀ v, v < n → 0 < ix st.idx v) : IsComp E n st.out := by
 have ho : ∀ v, v < n → 0 ≤ ix st.out v := fun v hvn => by
  rcases (show ix st.out v < 0 ∨ 0 ≤ ix st.out v by omega) with h1 | h1
  ·obtain ⟨p, ⟨q, hq, _⟩, _⟩ := h.first v ((h.opn v).2 ⟨hvn, hv v hvn, h1⟩)
   rw [hp] at hq
   cases hq
  ·exact h1
 exact ⟨h.lo, fun v hvn => (h.clo v hvn (ho v hvn)).2.2.1, fun v u hvn h1 h2 => (h.clo v hvn (ho v hvn)).2.2.2 u h1 h2⟩

theorem IsComp.unique {E : Nat → List Nat} {n : Nat} {a b : List Int} (ha : IsComp E n a) (hb : IsComp E n b) : a = b := by
 refine List.ext_getElem (by rw [ha.len, hb.len]) (fun v h1 h2 => ?_)
 have hv : v < n := by rw [← ha.len]; exact h1
 have e1 : ix a v = a[v] := by simp [ix, List.getD_eq_getElem?_getD, h1]
 have e2 : ix b v = b[v] := by simp [ix, List.getD_eq_getElem?_getD, h2]
 rw [← e1, ← e2]
 obtain ⟨m, hm, _, hm1, hm2⟩ := ha.own v hv
 obtain ⟨k, hk, _, hk1, hk2⟩ := hb.own v hv
 have h3 := ha.least v k hv hk1 hk2
 have h4 := hb.least v m hv hm1 hm2
 omega

/-- The beginning. -/
theorem Inv.start (E : Nat → List Nat) (n : Nat) (hE : ∀ a b, a < n → b ∈ E a → b < n) : Inv E n { idx := List.replicate n 0, low := List.replicate n 0, out := List.replicate n (-1), cnt := 0, opn := [], path := [] } none := by
 have h0 : ∀ v, ix (List.replicate n (0 : Int)) v = 0 := fun v => by
  unfold ix
  rw [List.getD_eq_getElem?_getD, List.getElem?_replicate]
  split <;> rfl
 have h1 : ∀ v, v < n → ix (List.replicate n (-1 : Int)) v = -1 := fun v hv => by
  unfold ix
  rw [List.getD_eq_getElem?_getD, List.getElem?_replicate, if_pos hv]
  rfl
 refine ⟨by simp, by simp, by simp, hE, fun v => ?_, List.Pairwise.nil, fun v => by rw [h0]; simp, fun v _ => by rw [h0]; exact Int.le_refl _, by simp, by simp, fun p v hp => ?_, by simp, by simp [PathOk], by simp, fun v hv hc => ?_, fun t e => by cases e⟩
 ·simp only [List.not_mem_nil, false_iff]
  rintro ⟨_, h2, _⟩
  rw [h0] at h2
  omega
 ·obtain ⟨q, hq, _⟩ := hp
  cases hq
 ·have hc' : 0 ≤ ix (List.replicate n (-1 : Int)) v := hc
  rw [h1 v hv] at hc'
  omega

end Tj
end Go.Proofs.YtikpcipkkhmcfaaGreat

/- Plain law: the search backwards from goals finds the shortest paths. No program. -/
namespace Go.Proofs.YtikpcipkkhmcfaaGreat

/-- Paths with their number of arcs. -/
inductive PathN (E : Nat → List Nat) : Nat → Nat → Nat → Prop
 | refl (a : Nat) : PathN E 0 a a
 | step {k a b c : Nat} : b ∈ E a → PathN E k b c → PathN E (k + 1) a c

structure IsDist (E : Nat → List Nat) (n : Nat) (goal : Nat → Prop) (out : List Int) : Prop where
 len : out.length = n
 none : ∀ v, v < n → Tj.ix out v < 0 → Tj.ix out v = -1 ∧ ∀ d g, goal g → ¬ PathN E d v g
 some : ∀ v, v < n → 0 ≤ Tj.ix out v → ∃ (d g : Nat), Tj.ix out v = d ∧ goal g ∧ PathN E d v g
 least : ∀ v d g, v < n → 0 ≤ Tj.ix out v → goal g → PathN E d v g → Tj.ix out v ≤ d
 bnd : ∀ v, v < n → Tj.ix out v < n

theorem IsDist.unique {E : Nat → List Nat} {n : Nat} {goal : Nat → Prop} {a b : List Int} (ha : IsDist E n goal a) (hb : IsDist E n goal b) : a = b := by
 refine List.ext_getElem (by rw [ha.len, hb.len]) (fun v h1 h2 => ?_)
 have hv : v < n := by rw [← ha.len]; exact h1
 have e1 : Tj.ix a v = a[v] := by simp [Tj.ix, List.getD_eq_getElem?_getD, h1]
 have e2 : Tj.ix b v = b[v] := by simp [Tj.ix, List.getD_eq_getElem?_getD, h2]
 rw [← e1, ← e2]
 rcases (show Tj.ix a v < 0 ∨ 0 ≤ Tj.ix a v by omega) with h3 | h3
 ·rcases (show Tj.ix b v < 0 ∨ 0 ≤ Tj.ix b v by omega) with h4 | h4
  ·rw [(ha.none v hv h3).1, (hb.none v hv h4).1]
  ·obtain ⟨d, g, _, hg, hp⟩ := hb.some v hv h4
   exact absurd hp ((ha.none v hv h3).2 d g hg)
 ·rcases (show Tj.ix b v < 0 ∨ 0 ≤ Tj.ix b v by omega) with h4 | h4
  ·obtain ⟨d, g, _, hg, hp⟩ := ha.some v hv h3
   exact absurd hp ((hb.none v hv h4).2 d g hg)
  ·obtain ⟨d, g, hd, hg, hp⟩ := ha.some v hv h3
   obtain ⟨d', g', hd', hg', hp'⟩ := hb.some v hv h4
   have h5 := ha.least v d' g' hv h3 hg' hp'
   have h6 := hb.least v d g hv h4 hg hp
   omega

structure Bfs (E P : Nat → List Nat) (n : Nat) (goal : Nat → Prop) (out : List Int) (q : List Nat) (i j : Nat) : Prop where
 len : out.length = n
 pred : ∀ s v, v < n → (s ∈ P v ↔ s < n ∧ v ∈ E s)
 mem : ∀ v, v ∈ q ↔ v < n ∧ 0 ≤ Tj.ix out v
 neg : ∀ v, v < n → Tj.ix out v < 0 → Tj.ix out v = -1
 srt : q.Pairwise (fun a b => Tj.ix out a ≤ Tj.ix out b)
 near : ∀ c, q[i]? = some c → ∀ u ∈ q, Tj.ix out u ≤ Tj.ix out c + 1
 done : ∀ k c, k < i → q[k]? = some c → ∀ s ∈ P c, 0 ≤ Tj.ix out s ∧ Tj.ix out s ≤ Tj.ix out c + 1
 part : ∀ c, q[i]? = some c → ∀ k s, k < j → (P c)[k]? = some s → 0 ≤ Tj.ix out s ∧ Tj.ix out s ≤ Tj.ix out c + 1
 sound : ∀ v ∈ q, ∃ (d g : Nat), Tj.ix out v = d ∧ goal g ∧ PathN E d v g
 goals : ∀ g, goal g → g < n ∧ Tj.ix out g = 0
 nd : q.Nodup
 bnd : ∀ (k v : Nat), q[k]? = some v → Tj.ix out v ≤ (k : Int)

theorem Bfs.skip {E P : Nat → List Nat} {n : Nat} {goal : Nat → Prop} {out : List Int} {q : List Nat} {i j c s : Nat} (h : Bfs E P n goal out q i j) (hc : q[i]? = some c) (hs : (P c)[j]? = some s) (h0 : 0 ≤ Tj.ix out s) : Bfs E P n goal out q i (j + 1) := by
 have hcn := ((h.mem c).1 (List.mem_of_getElem? hc)).1
 have hsn : s < n := ((h.pred s c hcn).1 (List.mem_of_getElem? hs)).1
 refine ⟨h.len, h.pred, h.mem, h.neg, h.srt, h.near, h.done, fun c' hc' k s' hk hs' => ?_, h.sound, h.goals, h.nd, h.bnd⟩
 rw [hc] at hc'
 cases hc'
 rcases Nat.lt_or_ge k j with h1 | h1
 ·exact h.part c hc k s' h1 hs'
 ·have : k = j := by omega
  subst this
  rw [hs] at hs'
  cases hs'
  exact ⟨h0, h.near c hc s ((h.mem s).2 ⟨hsn, h0⟩)⟩

theorem Bfs.add {E P : Nat → List Nat} {n : Nat} {goal : Nat → Prop} {out : List Int} {q : List Nat} {i j c s : Nat} (h : Bfs E P n goal out q i j) (hc : q[i]? = some c) (hs : (P c)[j]? = some s) (h0 : Tj.ix out s < 0) :
  Bfs E P n goal (out.set s (Tj.ix out c + 1)) (q ++ [s]) i (j + 1) := by
 have hcm := (h.mem c).1 (List.mem_of_getElem? hc)
 obtain ⟨hsn, hedge⟩ := (h.pred s c hcm.1).1 (List.mem_of_getElem? hs)
 have hix : ∀ v, Tj.ix (out.set s (Tj.ix out c + 1)) v = if v = s then Tj.ix out c + 1 else Tj.ix out v := fun v => Tj.ix_set _ _ _ _ (by rw [h.len]; exact hsn)
 have hsq : s ∉ q := fun hm => by have := ((h.mem s).1 hm).2; omega
 have hold : ∀ v ∈ q, Tj.ix (out.set s (Tj.ix out c + 1)) v = Tj.ix out v := fun v hv => by
  have hne : v ≠ s := fun e => hsq (by rw [← e]; exact hv)
  rw [hix, if_neg hne]
 have hnn : ∀ v, 0 ≤ Tj.ix out v → Tj.ix (out.set s (Tj.ix out c + 1)) v = Tj.ix out v := fun v hv => by rw [hix, if_neg (fun e => by subst e; omega)]
 have hcold := hold c (List.mem_of_getElem? hc)
 have hil : i < q.length := (List.getElem?_eq_some_iff.1 hc).1
 have hget : ∀ k, k < q.length → (q ++ [s])[k]? = q[k]? := fun k hk => List.getElem?_append_left hk
 refine ⟨by simp [h.len], h.pred, fun v => ?_, fun v hv hn => ?_, ?_, fun c' hc' u hu => ?_, fun k c' hk hc' s' hs' => ?_, fun c' hc' k s' hk hs' => ?_, fun v hv => ?_, fun g hg => ?_, ?_, fun k v hk => ?_⟩
 ·rw [List.mem_append, List.mem_singleton, hix, h.mem v]
  by_cases hvs : v = s
  ·subst hvs
   rw [if_pos rfl]
   exact ⟨fun _ => ⟨hsn, by omega⟩, fun _ => .inr rfl⟩
  ·rw [if_neg hvs]
   exact ⟨fun h1 => h1.elim id (fun e => absurd e hvs), .inl⟩
 ·rw [hix] at hn ⊢
  split at hn
  ·omega
  ·rename_i h1
   rw [if_neg h1]
   exact h.neg v hv hn
 ·rw [List.pairwise_append]
  refine ⟨h.srt.imp_of_mem (fun {a b} ha hb hab => by rw [hold a ha, hold b hb]; exact hab), by simp, fun a ha b hb => ?_⟩
  rw [List.mem_singleton] at hb
  subst hb
  rw [hold a ha, hix, if_pos rfl]
  exact h.near c hc a ha
 ·rw [hget i hil, hc] at hc'
  cases hc'
  rw [hcold]
  rcases List.mem_append.1 hu with hu | hu
  ·rw [hold u hu]; exact h.near c hc u hu
  ·rw [List.mem_singleton] at hu
   subst hu
   rw [hix, if_pos rfl]
   exact Int.le_refl _
 ·rw [hget k (by omega)] at hc'
  have h1 := h.done k c' hk hc' s' hs'
  rw [hnn s' h1.1, hold c' (List.mem_of_getElem? hc')]
  exact h1
 ·rw [hget i hil, hc] at hc'
  cases hc'
  rcases Nat.lt_or_ge k j with h1 | h1
  ·have h2 := h.part c hc k s' h1 hs'
   rw [hnn s' h2.1, hcold]
   exact h2
  ·have : k = j := by omega
   subst this
   rw [hs] at hs'
   cases hs'
   rw [hcold, hix, if_pos rfl]
   exact ⟨by omega, Int.le_refl _⟩
 ·rcases List.mem_append.1 hv with hv | hv
  ·rw [hold v hv]; exact h.sound v hv
  ·rw [List.mem_singleton] at hv
   subst hv
   obtain ⟨d, g, hd, hg, hp⟩ := h.sound c (List.mem_of_getElem? hc)
   refine ⟨d + 1, g, ?_, hg, .step hedge hp⟩
   rw [hix, if_pos rfl, hd]
   rfl
 ·have := h.goals g hg
  exact ⟨this.1, by rw [hnn g (by omega)]; exact this.2⟩
 ·rw [List.nodup_append]
  refine ⟨h.nd, by simp, fun a ha b hb e => ?_⟩
  rw [List.mem_singleton] at hb
  subst hb
  exact hsq (e ▸ ha)
 ·rcases Nat.lt_or_ge k q.length with h1 | h1
  ·rw [hget k h1] at hk
   rw [hold v (List.mem_of_getElem? hk)]
   exact h.bnd k v hk
  ·rw [List.getElem?_append_right h1] at hk
   have h2 : k - q.length = 0 := by
    rcases Nat.eq_zero_or_pos (k - q.length) with h3 | h3
    ·exact h3
    ·rw [List.getElem?_eq_none (by simp; omega)] at hk; cases hk
   rw [h2] at hk
   simp at hk
   subst hk
   rw [hix, if_pos rfl]
   have := h.bnd i c hc
   omega

theorem Bfs.next {E P : Nat → List Nat} {n : Nat} {goal : Nat → Prop} {out : List Int} {q : List Nat} {i j c : Nat} (h : Bfs E P n goal out q i j) (hc : q[i]? = some c) (hj : (P c).length ≤ j) : Bfs E P n goal out q (i + 1) 0 := by
 refine ⟨h.len, h.pred, h.mem, h.neg, h.srt, fun c' hc' u hu => ?_, fun k c' hk hc' s hs => ?_, fun _ _ k s hk => by omega, h.sound, h.goals, h.nd, h.bnd⟩
 ·have h1 := h.near c hc u hu
  obtain ⟨hi1, hi2⟩ := List.getElem?_eq_some_iff.1 hc
  obtain ⟨hk1, hk2⟩ := List.getElem?_eq_some_iff.1 hc'
  have h2 := List.pairwise_iff_getElem.1 h.srt i (i + 1) hi1 hk1 (by omega)
  rw [hi2, hk2] at h2
  omega
 ·rcases Nat.lt_or_ge k i with h1 | h1
  ·exact h.done k c' h1 hc' s hs
  ·have : k = i := by omega
   subst this
   rw [hc] at hc'
   cases hc'
   obtain ⟨m, hm1, hm2⟩ := List.getElem_of_mem hs
   exact h.part c hc m s (by omega) (by rw [← hm2]; exact List.getElem?_eq_getElem hm1)

theorem Bfs.finish {E P : Nat → List Nat} {n : Nat} {goal : Nat → Prop} {out : List Int} {q : List Nat} {i j : Nat} (h : Bfs E P n goal out q i j) (hi : q.length ≤ i) (hE : ∀ a b, a < n → b ∈ E a → b < n) : IsDist E n goal out := by
 have hkey : ∀ d v g, goal g → PathN E d v g → v < n → 0 ≤ Tj.ix out v ∧ Tj.ix out v ≤ d := by
  intro d v g hg hp
  induction hp with
  | refl a => intro _; have := (h.goals a hg).2; rw [this]; exact ⟨Int.le_refl _, by simp⟩
  | step e _ ih =>
   intro hv
   have hb := hE _ _ hv e
   have h1 := ih hg hb
   obtain ⟨k, hk1, hk2⟩ := List.getElem_of_mem ((h.mem _).2 ⟨hb, h1.1⟩)
   have h2 := h.done k _ (by omega) (by rw [← hk2]; exact List.getElem?_eq_getElem hk1) _ ((h.pred _ _ hb).2 ⟨hv, e⟩)
   exact ⟨h2.1, by have := h2.2; push_cast; omega⟩
 refine ⟨h.len, fun v hv hn => ⟨h.neg v hv hn, fun d g hg hp => ?_⟩, fun v hv h0 => h.sound v ((h.mem v).2 ⟨hv, h0⟩), fun v d g hv _ hg hp => (hkey d v g hg hp hv).2, fun v hv => ?_⟩
 ·have := (hkey d v g hg hp hv).1
  omega
 ·rcases (show Tj.ix out v < 0 ∨ 0 ≤ Tj.ix out v by omega) with h0 | h0
  ·omega
  ·obtain ⟨k, hk1, hk2⟩ := List.getElem_of_mem ((h.mem v).2 ⟨hv, h0⟩)
   have h1 := h.bnd k v (by rw [← hk2]; exact List.getElem?_eq_getElem hk1)
   have h2 := h.nd.length_le_of_subset (l₂ := List.range n) (fun v hv => List.mem_range.2 ((h.mem v).1 hv).1)
   rw [List.length_range] at h2
   omega

end Go.Proofs.YtikpcipkkhmcfaaGreat
