/- Plain: what is reached, the two searches, compaction. No program. -/
import Derived.Test.YtlpgonnionbkfaaHA
namespace Go.Proofs.Ytlpgonnionbkfaa

inductive Path (E : Nat → List Nat) : Nat → Nat → Prop
  | refl (a : Nat) : Path E a a
  | step {a b c : Nat} : b ∈ E a → Path E b c → Path E a c
theorem Path.trans {E : Nat → List Nat} {a b c : Nat} (h : Path E a b) (k : Path E b c) : Path E a c := by
  induction h with
  | refl => exact k
  | step e _ ih => exact .step e (ih k)
theorem Path.snoc {E : Nat → List Nat} {a b c : Nat} (h : Path E a b) (k : c ∈ E b) : Path E a c := h.trans (.step k (.refl c))
theorem Path.closed {E : Nat → List Nat} {P : Nat → Prop} (hP : ∀ a b, P a → b ∈ E a → P b) {a b : Nat} (h : Path E a b) (ha : P a) : P b := by
  induction h with
  | refl => exact ha
  | step e _ ih => exact ih (hP _ _ ha e)
theorem asc_unique : ∀ {a b : List Nat}, a.Pairwise (· < ·) → b.Pairwise (· < ·) → (∀ v, v ∈ a ↔ v ∈ b) → a = b
  | [], [], _, _, _ => rfl
  | [], y :: q, _, _, h => absurd ((h y).2 (List.mem_cons_self ..)) (by simp)
  | x :: r, [], _, _, h => absurd ((h x).1 (List.mem_cons_self ..)) (by simp)
  | x :: r, y :: q, ha, hb, h => by
    have h1 := List.pairwise_cons.1 ha
    have h2 := List.pairwise_cons.1 hb
    have hxy : x = y := by
      rcases List.mem_cons.1 ((h x).1 (List.mem_cons_self ..)) with e | e
      · exact e
      · rcases List.mem_cons.1 ((h y).2 (List.mem_cons_self ..)) with e' | e'
        · exact e'.symm
        · have := h2.1 x e
          have := h1.1 y e'
          omega
    subst hxy
    rw [asc_unique h1.2 h2.2 (fun v => ?_)]
    have h3 := h v
    simp only [List.mem_cons] at h3
    constructor
    · intro hv
      rcases h3.1 (.inr hv) with e | e
      · have := h1.1 v hv; omega
      · exact e
    · intro hv
      rcases h3.2 (.inr hv) with e | e
      · have := h2.1 v hv; omega
      · exact e

def natI (xs : List Nat) : List Int := xs.map Int.ofNat
theorem natI_len (xs : List Nat) : (natI xs).length = xs.length := by simp [natI]
theorem natI_mem {xs : List Nat} {v : Nat} : (v : Int) ∈ natI xs ↔ v ∈ xs := by
  simp only [natI, List.mem_map]
  constructor
  · rintro ⟨u, hu, he⟩
    have : u = v := by have h9 : (u : Int) = (v : Int) := he; omega
    rw [← this]; exact hu
  · intro h; exact ⟨v, h, rfl⟩
theorem natI_get {xs : List Nat} {i v : Nat} (h : xs[i]? = some v) : (natI xs)[i]? = some (v : Int) := by simp [natI, h]

def Ed (cs : List HC) (v : Nat) : List Nat := (cellAt cs v).refs.map Int.toNat
theorem HOk.ref {cs : List HC} (h : HOk cs) {v : Nat} (hv : v < cs.length) : ∀ r ∈ (cellAt cs v).refs, 0 ≤ r ∧ r < (cs.length : Int) :=
  h.refs _ (List.mem_of_getElem? (cellAt_get hv))
theorem HOk.few {cs : List HC} (h : HOk cs) {v : Nat} (hv : v < cs.length) : (cellAt cs v).refs.length ≤ 2 :=
  h.two _ (List.mem_of_getElem? (cellAt_get hv))
theorem HOk.ed {cs : List HC} (h : HOk cs) : ∀ a b, a < cs.length → b ∈ Ed cs a → b < cs.length := by
  intro a b ha hb
  obtain ⟨r, hr, rfl⟩ := List.mem_map.1 hb
  have := h.ref ha r hr
  omega
theorem HOk.ed_refs {cs : List HC} (h : HOk cs) {v : Nat} (hv : v < cs.length) : natI (Ed cs v) = (cellAt cs v).refs := by
  rw [natI, Ed, List.map_map]
  refine (List.map_congr_left (fun r hr => ?_)).trans (List.map_id _)
  have := h.ref hv r hr
  simp
  omega
theorem Path.lt {cs : List HC} (h : HOk cs) {a b : Nat} (p : Path (Ed cs) a b) (ha : a < cs.length) : b < cs.length := p.closed (P := fun v => v < cs.length) (fun a b ha hb => h.ed a b ha hb) ha

/-- The roots that exist. -/
def rts (cs : List HC) (rs : List Int) : List Nat := (rs.filter (inL cs)).map Int.toNat
theorem mem_rts {cs : List HC} {rs : List Int} {v : Nat} : v ∈ rts cs rs ↔ v < cs.length ∧ (v : Int) ∈ rs := by
  simp only [rts, List.mem_map, List.mem_filter, inL, decide_eq_true_eq]
  constructor
  · rintro ⟨r, ⟨hr, h0, h1⟩, rfl⟩
    refine ⟨by omega, ?_⟩
    rw [Int.toNat_of_nonneg h0]
    exact hr
  · rintro ⟨h1, h2⟩
    exact ⟨(v : Int), ⟨h2, by omega, by omega⟩, by simp⟩

open Classical in
/-- What is reached from fr, ascending. -/
noncomputable def rset (cs : List HC) (fr : List Nat) : List Nat := (List.range cs.length).filter (fun v => decide (∃ u ∈ fr, Path (Ed cs) u v))
theorem mem_rset {cs : List HC} {fr : List Nat} {v : Nat} : v ∈ rset cs fr ↔ v < cs.length ∧ ∃ u ∈ fr, Path (Ed cs) u v := by
  simp [rset]
theorem rset_asc (cs : List HC) (fr : List Nat) : (rset cs fr).Pairwise (· < ·) := List.Pairwise.filter _ List.pairwise_lt_range
theorem rset_len (cs : List HC) (fr : List Nat) : (rset cs fr).length ≤ cs.length := by
  unfold rset
  exact Nat.le_trans (List.length_filter_le _ _) (by simp)

/-- The depth-first search: seen, in which order, what is still on the stack. -/
structure Srch (cs : List HC) (fr : List Nat) (seen : List Bool) (out : List Nat) (stk : List Int) : Prop where
  len : seen.length = cs.length
  mem : ∀ v : Nat, seen[v]? = some true ↔ v ∈ out
  nd : out.Nodup
  lt : ∀ v ∈ out, v < cs.length
  snd : ∀ v ∈ out, ∃ u ∈ fr, Path (Ed cs) u v
  sok : ∀ r ∈ stk, inL cs r = true → ∃ u ∈ fr, Path (Ed cs) u r.toNat
  cls : ∀ v ∈ out, ∀ u ∈ Ed cs v, u ∈ out ∨ (u : Int) ∈ stk
  ini : ∀ u ∈ fr, u ∈ out ∨ (u : Int) ∈ stk
theorem Srch.start (cs : List HC) (rs : List Int) : Srch cs (rts cs rs) (List.replicate cs.length false) [] rs where
  len := by simp
  mem := fun v => by simp [List.getElem?_replicate]
  nd := List.nodup_nil
  lt := fun v h => (by cases h)
  snd := fun v h => (by cases h)
  sok := fun r hr hin => by
    obtain ⟨k, rfl, hk⟩ := inL_nat hin
    exact ⟨k, mem_rts.2 ⟨hk, hr⟩, by rw [Int.toNat_natCast]; exact .refl k⟩
  cls := fun v h => (by cases h)
  ini := fun u hu => .inr (mem_rts.1 hu).2
theorem Srch.few {cs : List HC} {fr : List Nat} {seen : List Bool} {out : List Nat} {stk : List Int} (h : Srch cs fr seen out stk) : out.length ≤ cs.length := by
  have := h.nd.length_le_of_subset (l₂ := List.range cs.length) (fun v hv => List.mem_range.2 (h.lt v hv))
  simpa using this
theorem Srch.skip {cs : List HC} {fr : List Nat} {seen : List Bool} {out : List Nat} {stk : List Int} {r : Int} (h : Srch cs fr seen out (stk ++ [r])) (hr : inL cs r = false ∨ r.toNat ∈ out) (hok : HOk cs) (hfr : ∀ u ∈ fr, u < cs.length) : Srch cs fr seen out stk where
  len := h.len
  mem := h.mem
  nd := h.nd
  lt := h.lt
  snd := h.snd
  sok := fun x hx => h.sok x (List.mem_append_left _ hx)
  cls := fun v hv u hu => by
    rcases h.cls v hv u hu with h1 | h1
    · exact .inl h1
    · rcases List.mem_append.1 h1 with h1 | h1
      · exact .inr h1
      · rw [List.mem_singleton] at h1
        subst h1
        rcases hr with hr | hr
        · have := hok.ed v u (h.lt v hv) hu
          simp only [inL, decide_eq_false_iff_not] at hr
          omega
        · exact .inl (by simpa using hr)
  ini := fun u hu => by
    rcases h.ini u hu with h1 | h1
    · exact .inl h1
    · rcases List.mem_append.1 h1 with h1 | h1
      · exact .inr h1
      · rw [List.mem_singleton] at h1
        subst h1
        rcases hr with hr | hr
        · have := hfr u hu
          simp only [inL, decide_eq_false_iff_not] at hr
          omega
        · exact .inl (by simpa using hr)
theorem set_get {seen : List Bool} {k : Nat} (hk : k < seen.length) (v : Nat) : (seen.set k true)[v]? = some true ↔ v = k ∨ seen[v]? = some true := by
  by_cases hvk : k = v
  · subst hvk; simp [hk]
  · rw [List.getElem?_set_ne hvk]
    constructor
    · exact .inr
    · rintro (h | h)
      · exact absurd h.symm hvk
      · exact h
theorem Srch.take {cs : List HC} {fr : List Nat} {seen : List Bool} {out : List Nat} {stk : List Int} {k : Nat} (h : Srch cs fr seen out (stk ++ [(k : Int)])) (hk : k < cs.length) (hno : k ∉ out) (hok : HOk cs) : Srch cs fr (seen.set k true) (out ++ [k]) (stk ++ (cellAt cs k).refs) where
  len := by rw [List.length_set]; exact h.len
  mem := fun v => by rw [set_get (by rw [h.len]; exact hk), h.mem v, List.mem_append, List.mem_singleton, or_comm]
  nd := by
    rw [List.nodup_append]
    exact ⟨h.nd, by simp, fun a ha b hb => by rw [List.mem_singleton] at hb; subst hb; exact fun e => hno (e ▸ ha)⟩
  lt := fun v hv => by
    rcases List.mem_append.1 hv with hv | hv
    · exact h.lt v hv
    · rw [List.mem_singleton] at hv; rw [hv]; exact hk
  snd := fun v hv => by
    rcases List.mem_append.1 hv with hv | hv
    · exact h.snd v hv
    · rw [List.mem_singleton] at hv
      have := h.sok (k : Int) (by simp) (by simp [inL]; omega)
      rw [Int.toNat_natCast] at this
      rw [hv]; exact this
  sok := fun r hr hin => by
    rcases List.mem_append.1 hr with hr | hr
    · exact h.sok r (List.mem_append_left _ hr) hin
    · obtain ⟨u, hu, hp⟩ := h.sok (k : Int) (by simp) (by simp [inL]; omega)
      rw [Int.toNat_natCast] at hp
      exact ⟨u, hu, hp.snoc (List.mem_map.2 ⟨r, hr, rfl⟩)⟩
  cls := fun v hv u hu => by
    rcases List.mem_append.1 hv with hv | hv
    · rcases h.cls v hv u hu with h1 | h1
      · exact .inl (List.mem_append_left _ h1)
      · rcases List.mem_append.1 h1 with h1 | h1
        · exact .inr (List.mem_append_left _ h1)
        · rw [List.mem_singleton] at h1
          exact .inl (List.mem_append_right _ (by rw [List.mem_singleton]; omega))
    · rw [List.mem_singleton] at hv
      subst hv
      refine .inr (List.mem_append_right _ ?_)
      rw [← hok.ed_refs hk]
      exact natI_mem.2 hu
  ini := fun u hu => by
    rcases h.ini u hu with h1 | h1
    · exact .inl (List.mem_append_left _ h1)
    · rcases List.mem_append.1 h1 with h1 | h1
      · exact .inr (List.mem_append_left _ h1)
      · rw [List.mem_singleton] at h1
        exact .inl (List.mem_append_right _ (by rw [List.mem_singleton]; omega))
theorem Srch.done {cs : List HC} {fr : List Nat} {seen : List Bool} {out : List Nat} (h : Srch cs fr seen out []) (v : Nat) : v ∈ out ↔ v ∈ rset cs fr := by
  rw [mem_rset]
  constructor
  · intro hv
    exact ⟨h.lt v hv, h.snd v hv⟩
  · rintro ⟨_, u, hu, hp⟩
    refine hp.closed (P := fun v => v ∈ out) (fun a b ha hb => ?_) ?_
    · rcases h.cls a ha b hb with h1 | h1
      · exact h1
      · cases h1
    · rcases h.ini u hu with h1 | h1
      · exact h1
      · cases h1

/-- The breadth-first search: what is marked, in which order; the first i are done. -/
structure Bfr (cs : List HC) (fr : List Nat) (seen : List Bool) (ord : List Nat) (i : Nat) : Prop where
  len : seen.length = cs.length
  mem : ∀ v : Nat, seen[v]? = some true ↔ v ∈ ord
  nd : ord.Nodup
  lt : ∀ v ∈ ord, v < cs.length
  snd : ∀ v ∈ ord, ∃ u ∈ fr, Path (Ed cs) u v
  ile : i ≤ ord.length
  cls : ∀ j v, j < i → ord[j]? = some v → ∀ u ∈ Ed cs v, u ∈ ord
theorem Bfr.start (cs : List HC) (fr : List Nat) : Bfr cs fr (List.replicate cs.length false) [] 0 where
  len := by simp
  mem := fun v => by simp [List.getElem?_replicate]
  nd := List.nodup_nil
  lt := fun v h => (by cases h)
  snd := fun v h => (by cases h)
  ile := Nat.le_refl _
  cls := fun j v h => (by omega)
theorem Bfr.few {cs : List HC} {fr : List Nat} {seen : List Bool} {ord : List Nat} {i : Nat} (h : Bfr cs fr seen ord i) : ord.length ≤ cs.length := by
  have := h.nd.length_le_of_subset (l₂ := List.range cs.length) (fun v hv => List.mem_range.2 (h.lt v hv))
  simpa using this
theorem Bfr.mark {cs : List HC} {fr : List Nat} {seen : List Bool} {ord : List Nat} {i k : Nat} (h : Bfr cs fr seen ord i) (hk : k < cs.length) (hno : k ∉ ord) (hs : ∃ u ∈ fr, Path (Ed cs) u k) : Bfr cs fr (seen.set k true) (ord ++ [k]) i where
  len := by rw [List.length_set]; exact h.len
  mem := fun v => by rw [set_get (by rw [h.len]; exact hk), h.mem v, List.mem_append, List.mem_singleton, or_comm]
  nd := by
    rw [List.nodup_append]
    exact ⟨h.nd, by simp, fun a ha b hb => by rw [List.mem_singleton] at hb; subst hb; exact fun e => hno (e ▸ ha)⟩
  lt := fun v hv => by
    rcases List.mem_append.1 hv with hv | hv
    · exact h.lt v hv
    · rw [List.mem_singleton] at hv; rw [hv]; exact hk
  snd := fun v hv => by
    rcases List.mem_append.1 hv with hv | hv
    · exact h.snd v hv
    · rw [List.mem_singleton] at hv; rw [hv]; exact hs
  ile := by have := h.ile; simp; omega
  cls := fun j v hj hv u hu => by
    have := h.ile
    rw [List.getElem?_append_left (by omega)] at hv
    exact List.mem_append_left _ (h.cls j v hj hv u hu)
theorem Bfr.next {cs : List HC} {fr : List Nat} {seen : List Bool} {ord : List Nat} {i v : Nat} (h : Bfr cs fr seen ord i) (hv : ord[i]? = some v) (hall : ∀ u ∈ Ed cs v, u ∈ ord) : Bfr cs fr seen ord (i + 1) where
  len := h.len
  mem := h.mem
  nd := h.nd
  lt := h.lt
  snd := h.snd
  ile := (List.getElem?_eq_some_iff.1 hv).1
  cls := fun j u hj hu x hx => by
    by_cases hji : j = i
    · subst hji
      rw [hv] at hu
      cases hu
      exact hall x hx
    · exact h.cls j u (by omega) hu x hx
theorem Bfr.done {cs : List HC} {fr : List Nat} {seen : List Bool} {ord : List Nat} {i : Nat} (h : Bfr cs fr seen ord i) (hi : ord.length ≤ i) (hini : ∀ u ∈ fr, u ∈ ord) (v : Nat) : seen[v]? = some true ↔ v ∈ rset cs fr := by
  rw [h.mem v, mem_rset]
  constructor
  · intro hv
    exact ⟨h.lt v hv, h.snd v hv⟩
  · rintro ⟨_, u, hu, hp⟩
    refine hp.closed (P := fun v => v ∈ ord) (fun a b ha hb => ?_) (hini u hu)
    obtain ⟨j, hj⟩ := List.getElem?_of_mem ha
    have := (List.getElem?_eq_some_iff.1 hj).1
    exact h.cls j a (by omega) hj b hb

/-- The entries below k that are true. -/
def trues (seen : List Bool) (k : Nat) : List Nat := (List.range k).filter fun v => decide (seen[v]? = some true)
theorem trues_yes {seen : List Bool} {k : Nat} (h : seen[k]? = some true) : trues seen (k + 1) = trues seen k ++ [k] := by
  simp [trues, List.range_succ, List.filter_append, h]
theorem trues_no {seen : List Bool} {k : Nat} (h : seen[k]? ≠ some true) : trues seen (k + 1) = trues seen k := by
  simp [trues, List.range_succ, List.filter_append, h]
theorem trues_len (seen : List Bool) (k : Nat) : (trues seen k).length ≤ k := by
  have := List.length_filter_le (fun v => decide (seen[v]? = some true)) (List.range k)
  simpa [trues] using this
theorem trues_rset {cs : List HC} {fr : List Nat} {seen : List Bool} (h : ∀ v : Nat, seen[v]? = some true ↔ v ∈ rset cs fr) : trues seen cs.length = rset cs fr := by
  refine asc_unique (List.Pairwise.filter _ List.pairwise_lt_range) (rset_asc _ _) (fun v => ?_)
  rw [trues, List.mem_filter, List.mem_range, decide_eq_true_eq, h v]
  exact ⟨fun h => h.2, fun h => ⟨(mem_rset.1 h).1, h⟩⟩

/-- Compaction: the references lead past links; what is reached is kept and numbered anew. -/
def mapR (f : Int → Int) (c : HC) : HC := ⟨c.kind, c.num, c.refs.map f⟩
def folI (cs : List HC) (r : Int) : Int := (tgt cs r.toNat : Int)
def thr (cs : List HC) : List HC := cs.map fun c => if c.kind = 3 then c else mapR (folI cs) c
def outs (cs : List HC) (rs : List Int) : List Int := rs.map fun r => if inL cs r = true then folI cs r else -1
noncomputable def kept (cs : List HC) (rs : List Int) : List Nat := rset (thr cs) (rts (thr cs) (outs cs rs))
noncomputable def numI (cs : List HC) (rs : List Int) (r : Int) : Int := ((kept cs rs).idxOf r.toNat : Nat)
noncomputable def compC (cs : List HC) (rs : List Int) : List HC := (kept cs rs).map fun v => mapR (numI cs rs) (cellAt (thr cs) v)
noncomputable def compO (cs : List HC) (rs : List Int) : List Int := rs.map fun r => if inL cs r = true then numI cs rs (folI cs r) else -1

end Go.Proofs.Ytlpgonnionbkfaa
