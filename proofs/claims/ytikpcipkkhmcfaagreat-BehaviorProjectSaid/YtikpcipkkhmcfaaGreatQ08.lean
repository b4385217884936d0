/- Texts V2, V3, V4. -/
import Derived.Test.YtikpcipkkhmcfaaGreatQ02
/- Plain: the entries of all traces are a behavior. No program in sight. -/
namespace Go.Proofs.YtikpcipkkhmcfaaGreat.Beh
open Go.Proofs.YtikpcipkkhmcfaaGreat.Ind

/-- What is asked of events and entries. -/
structure WkOk (k : Wk) : Prop where
 asc : ∀ s, (k.ev s).Pairwise (· < ·)
 vis : ∀ s, ∀ e ∈ k.ev s, 1 ≤ e ∧ e ≤ 1025
 anti : ∀ t s, Anti (k.ent t s).2.1
 acc : ∀ t s, ∀ a ∈ (k.ent t s).2.1, visB a = true
/-- The traces come in order: the next one comes from i, by an event beyond pe. -/
structure Tr (k : Wk) (i : Nat) (pe : Int) (st : St) : Prop where
 ne : st ≠ []
 head : ∀ p, st[0]? = some p → p.2.1 = []
 par : ∀ (j : Nat) (p : List Nat × En), st[j]? = some p → p.2.1 ≠ [] → ∃ (q : Nat) (r : List Nat × En) (e : Int), st[q]? = some r ∧ p.2.1 = r.2.1 ++ [e] ∧ 1 ≤ e ∧ e ≤ 1025
 asc : ∀ (j : Nat) (x y : List Nat × En), st[j]? = some x → st[j + 1]? = some y → ltT x.2.1 y.2.1 = true
 last : ∀ (p : List Nat × En), st[st.length - 1]? = some p → p.2.1 = [] ∨ ∃ (q : Nat) (r : List Nat × En) (e : Int), q ≤ i ∧ st[q]? = some r ∧ p.2.1 = r.2.1 ++ [e] ∧ (q = i → e ≤ pe)
 ent : ∀ p ∈ st, ∃ t s, p.2 = k.ent t s
theorem Tr.lt {k : Wk} {i : Nat} {pe : Int} {st : St} (h : Tr k i pe st) : ∀ {a b : Nat} {x y : List Nat × En}, a < b → st[a]? = some x → st[b]? = some y → ltT x.2.1 y.2.1 = true := by
 intro a b x y hab ha hb
 induction b generalizing y with
 | zero => omega
 | succ b ih =>
  obtain ⟨z, hz⟩ : ∃ z, st[b]? = some z := ⟨_, List.getElem?_eq_getElem (by have := (List.getElem?_eq_some_iff.1 hb).1; omega)⟩
  have h1 := h.asc b z y hz hb
  by_cases hb2 : a = b
  ·subst hb2
   rw [ha] at hz
   cases hz
   exact h1
  ·exact sto_T.trans _ _ _ (ih (by omega) hz) h1
theorem tr_start (k : Wk) (s0 : List Nat) : Tr k 0 0 [(s0, k.ent [] s0)] := by
 have h0 : ∀ (j : Nat) (p : List Nat × En), [(s0, k.ent [] s0)][j]? = some p → p.2.1 = [] := fun j p hp => by
  rw [List.mem_singleton.1 (List.mem_of_getElem? hp)]
  exact k.tr [] s0
 refine ⟨by simp, fun p hp => h0 0 p hp, fun j p hp hn => absurd (h0 j p hp) hn, fun j x y _ hy => ?_, fun p hp => .inl (h0 _ p hp), fun p hp => ⟨[], s0, by rw [List.mem_singleton.1 hp]⟩⟩
 rw [List.getElem?_eq_none (by simp)] at hy
 cases hy
theorem Tr.next {k : Wk} {i : Nat} {pe : Int} {st : St} (h : Tr k i pe st) : Tr k (i + 1) 0 st :=
 ⟨h.ne, h.head, h.par, h.asc, fun p hp => by
  rcases h.last p hp with h1 | ⟨q, r, e, h1, h2, h3, _⟩
  ·exact .inl h1
  ·exact .inr ⟨q, r, e, by omega, h2, h3, fun hq => by omega⟩, h.ent⟩
theorem Tr.snoc {k : Wk} {i : Nat} {pe e : Int} {st : St} {p : List Nat × En} {set : List Nat} (h : Tr k i pe st) (hp : st[i]? = some p) (he : pe < e) (h1 : 1 ≤ e) (h2 : e ≤ 1025) : Tr k i e (st ++ [newE k set p.2.1 e]) := by
 have hi := (List.getElem?_eq_some_iff.1 hp).1
 have htr : (newE k set p.2.1 e).2.1 = p.2.1 ++ [e] := k.tr _ _
 have hnew : (st ++ [newE k set p.2.1 e])[st.length]? = some (newE k set p.2.1 e) := by rw [List.getElem?_append_right (Nat.le_refl _), Nat.sub_self]; rfl
 have hold : ∀ {j : Nat} {x : List Nat × En}, st[j]? = some x → (st ++ [newE k set p.2.1 e])[j]? = some x := fun hx => by rw [List.getElem?_append_left (List.getElem?_eq_some_iff.1 hx).1]; exact hx
 have hcase : ∀ {j : Nat} {x : List Nat × En}, (st ++ [newE k set p.2.1 e])[j]? = some x → st[j]? = some x ∨ (j = st.length ∧ x = newE k set p.2.1 e) := fun {j x} hx => by
  by_cases hj : j < st.length
  ·rw [List.getElem?_append_left hj] at hx
   exact .inl hx
  ·have hl := (List.getElem?_eq_some_iff.1 hx).1
   rw [List.length_append, List.length_singleton] at hl
   have hj2 : j = st.length := by omega
   subst hj2
   rw [hnew] at hx
   cases hx
   exact .inr ⟨rfl, rfl⟩
 refine ⟨by simp, fun x hx => ?_, fun j x hx hn => ?_, fun j x y hx hy => ?_, fun x hx => ?_, fun x hx => ?_⟩
 ·rcases hcase hx with hx | ⟨h3, _⟩
  ·exact h.head x hx
  ·omega
 ·rcases hcase hx with hx | ⟨_, rfl⟩
  ·obtain ⟨q, r, e', a, b, c⟩ := h.par j x hx hn
   exact ⟨q, r, e', hold a, b, c⟩
  ·exact ⟨i, p, e, hold hp, htr, h1, h2⟩
 ·rcases hcase hy with hy | ⟨h3, rfl⟩
  ·rcases hcase hx with hx | ⟨h4, _⟩
   ·exact h.asc j x y hx hy
   ·have := (List.getElem?_eq_some_iff.1 hy).1
    omega
  ·rcases hcase hx with hx | ⟨h4, _⟩
   ·rw [htr]
    have hx' : st[st.length - 1]? = some x := by rw [← h3]; exact hx
    rcases h.last x hx' with h5 | ⟨q, r, e', h5, h6, h7, h8⟩
    ·rw [h5]
     simp only [ltT, ltN, Bool.or_eq_true, decide_eq_true_eq, Bool.and_eq_true, List.length_append, List.length_singleton, List.length_nil]
     left
     omega
    ·rw [h7]
     by_cases hq : q = i
     ·subst hq
      rw [hp] at h6
      cases h6
      exact ltT_snoc2 _ (by have := h8 rfl; omega)
     ·exact ltT_snoc _ _ (h.lt (by omega) h6 hp)
   ·omega
 ·rw [List.length_append, List.length_singleton, Nat.add_sub_cancel, hnew] at hx
  cases hx
  exact .inr ⟨i, p, e, Nat.le_refl _, hold hp, htr, fun _ => Int.le_refl _⟩
 ·rcases List.mem_append.1 hx with hx | hx
  ·exact h.ent x hx
  ·rw [List.mem_singleton.1 hx]
   exact ⟨_, _, rfl⟩
theorem addL_tr {k : Wk} {i : Nat} {p : List Nat × En} {set : List Nat} : ∀ (l : List Int) (pe : Int) (st st' : St), Tr k i pe st → st[i]? = some p → l.Pairwise (· < ·) → (∀ e ∈ l, pe < e ∧ 1 ≤ e ∧ e ≤ 1025) → addL k set p.2.1 l st = some st' → ∃ pe', Tr k i pe' st'
 | [], pe, st, st', h, _, _, _, he => by
  simp only [addL, Option.some.injEq] at he
  subst he
  exact ⟨pe, h⟩
 | e :: r, pe, st, st', h, hp, ha, hv, he => by
  by_cases hf : st.length = 16384
  ·rw [addL_full hf] at he; cases he
  ·rw [addL_cons hf] at he
   have h1 := hv e (by simp)
   have ha2 := List.pairwise_cons.1 ha
   exact addL_tr r e _ st' (h.snoc hp h1.1 h1.2.1 h1.2.2) (by rw [List.getElem?_append_left (List.getElem?_eq_some_iff.1 hp).1]; exact hp) ha2.2 (fun x hx => ⟨ha2.1 x hx, (hv x (List.mem_cons_of_mem _ hx)).2⟩) he
theorem of_tr {k : Wk} (hk : WkOk k) {n : Nat} : ∀ (f i : Nat) (st st' : St), Lv n i st → Tr k i 0 st → st.length ≤ 16384 → ofGo k n f i st = some st' → ∃ i', Lv n i' st' ∧ (∃ pe, Tr k i' pe st') ∧ st'.length ≤ 16384
 | 0, i, st, st', hl, ht, hs, he => by
  simp only [ofGo, Option.some.injEq] at he
  subst he
  exact ⟨i, hl, ⟨_, ht⟩, hs⟩
 | f + 1, i, st, st', hl, ht, hs, he => by
  cases hp : st[i]? with
  | none =>
   rw [of_end (by rw [List.getElem?_eq_none_iff] at hp; exact hp)] at he
   cases he
   exact ⟨i, hl, ⟨_, ht⟩, hs⟩
  | some p =>
   by_cases hn : p.2.1.length = n
   ·rw [of_same hp hn] at he
    exact of_tr hk f (i + 1) st st' hl.next ht.next hs he
   ·rw [of_step hp hn] at he
    cases ha : addL k p.1 p.2.1 (k.ev p.1) st with
    | none => rw [ha] at he; cases he
    | some st1 =>
     rw [ha] at he
     obtain ⟨h1, h2, h3⟩ := addL_lv hn _ _ _ hl hp hs ha
     obtain ⟨pe, h4⟩ := addL_tr _ _ _ _ ht hp (hk.asc _) (fun e he => by have := hk.vis _ e he; exact ⟨by omega, this⟩) ha
     exact of_tr hk f (i + 1) st1 st' h1.next h4.next h3 he
theorem of_vb {k : Wk} (hk : WkOk k) {n : Nat} (hn : n ≤ 24) {s0 : List Nat} {st : St} (h : ofB k n s0 = some st) : VB (st.map (·.2)) ∧ st.length ≤ 16384 ∧ 0 < st.length ∧ (∀ p ∈ st, p.2.1.length ≤ n) := by
 obtain ⟨i, hl, ⟨pe, ht⟩, hs⟩ := of_tr hk 16385 0 _ _ (lv_start k n s0) (tr_start k s0) (by simp) h
 have hpos : 0 < st.length := List.length_pos_iff.2 ht.ne
 refine ⟨⟨?_, fun x hx => ?_, fun j x y hx hy => ?_, fun x hx hne => ?_⟩, hs, hpos, hl.le⟩
 ·obtain ⟨p, hp⟩ : ∃ p, st[0]? = some p := ⟨_, List.getElem?_eq_getElem hpos⟩
  exact ⟨p.2, by rw [List.getElem?_map, hp]; rfl, ht.head p hp⟩
 ·obtain ⟨p, hp, rfl⟩ := List.mem_map.1 hx
  obtain ⟨t, s, e⟩ := ht.ent p hp
  refine ⟨by have := hl.le p hp; omega, ?_, by rw [e]; exact hk.acc t s, by rw [e]; exact hk.anti t s⟩
  rw [visB_iff]
  obtain ⟨j, hj⟩ := List.getElem?_of_mem hp
  clear hp e hx
  -- by the trace's length
  have key : ∀ (m j : Nat) (p : List Nat × En), p.2.1.length = m → st[j]? = some p → ∀ e ∈ p.2.1, 1 ≤ e ∧ e ≤ 1025 := by
   intro m
   induction m with
   | zero =>
    intro j p hm hj e he
    rw [List.eq_nil_of_length_eq_zero hm] at he
    cases he
   | succ m ih =>
    intro j p hm hj e he
    obtain ⟨q, r, e', hq, heq, h1, h2⟩ := ht.par j p hj (fun h0 => by rw [h0] at hm; simp at hm)
    rw [heq] at he hm
    rcases List.mem_append.1 he with he | he
    ·exact ih q r (by simpa using hm) hq e he
    ·rw [List.mem_singleton.1 he]
     exact ⟨h1, h2⟩
  exact key _ j p rfl hj
 ·rw [List.getElem?_map] at hx hy
  obtain ⟨p, hp, rfl⟩ := Option.map_eq_some_iff.1 hx
  obtain ⟨q, hq, rfl⟩ := Option.map_eq_some_iff.1 hy
  exact ht.asc j p q hp hq
 ·obtain ⟨p, hp, rfl⟩ := List.mem_map.1 hx
  obtain ⟨j, hj⟩ := List.getElem?_of_mem hp
  obtain ⟨q, r, e', hq, heq, _⟩ := ht.par j p hj hne
  exact ⟨r.2, List.mem_map.2 ⟨r, List.mem_of_getElem? hq, rfl⟩, by rw [heq]; simp⟩
end Go.Proofs.YtikpcipkkhmcfaaGreat.Beh

/- Plain: a smaller length gives a prefix; covered entries; projections. No program in sight. -/
namespace Go.Proofs.YtikpcipkkhmcfaaGreat.Beh
open Go.Proofs.YtikpcipkkhmcfaaGreat.Ind

/-- Whether a proper prefix of the trace diverges. -/
def beyondB (b : List En) (t : List Int) : Bool := (List.range t.length).any fun n => match findE b (t.take n) with | some x => x.2.2 | none => false
theorem beyond_snoc (b : List En) (t : List Int) (e : Int) : beyondB b (t ++ [e]) = (beyondB b t || match findE b t with | some x => x.2.2 | none => false) := by
 unfold beyondB
 rw [List.length_append, List.length_singleton, List.range_succ, List.any_append, List.any_cons, List.any_nil, Bool.or_false]
 congr 1
 ·have e1 : ∀ n ∈ List.range t.length, (t ++ [e]).take n = t.take n := fun n hn => List.take_append_of_le_length (by have := List.mem_range.1 hn; omega)
  rw [Bool.eq_iff_iff, List.any_eq_true, List.any_eq_true]
  constructor
  ·rintro ⟨n, hn, h⟩
   exact ⟨n, hn, by rw [e1 n hn] at h; exact h⟩
  ·rintro ⟨n, hn, h⟩
   exact ⟨n, hn, by rw [e1 n hn]; exact h⟩
 ·rw [List.take_append_of_le_length (Nat.le_refl _), List.take_length]
/-- What a model distinguishes. -/
def projE (m : Int) (x : En) : En := if m = 1 then (x.1, [], false) else if m = 2 then (x.1, x.2.1, false) else if x.2.2 = true then (x.1, [], true) else x
def projB (b : List En) (m : Int) : List En := (b.filter fun x => !(decide (m = 3) && beyondB b x.1)).map (projE m)
end Go.Proofs.YtikpcipkkhmcfaaGreat.Beh

/- Plain: refinement of behaviors. No program in sight. -/
namespace Go.Proofs.YtikpcipkkhmcfaaGreat.Beh
open Go.Proofs.YtikpcipkkhmcfaaGreat.Ind

theorem sub_self (a : List Int) : subI a a = true := subI_iff.2 fun _ h => h
end Go.Proofs.YtikpcipkkhmcfaaGreat.Beh
