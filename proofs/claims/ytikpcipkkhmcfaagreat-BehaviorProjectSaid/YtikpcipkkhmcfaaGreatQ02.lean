/- Texts V0, V1, V6, VB, A3. -/
import Derived.Test.YtikpcipkkhmcfaaGreatQ01
import Derived.Test.YtikpcipkkhmcfaaGreatQ00
import Derived.Laws.AppendOwnNone
import Derived.StillTail
/- Plain: the entries of all traces up to a length, level by level. No program in sight. -/
namespace Go.Proofs.YtikpcipkkhmcfaaGreat.Beh

/-- A trace, its acceptances, whether it diverges. -/
abbrev En := List Int × List (List Int) × Bool
/-- Entries, each with the set of its states. -/
abbrev St := List (List Nat × En)
/-- What is asked of a system: the events of a set, the set behind an event, the entry of a trace and its set. -/
structure Wk where
 ev : List Nat → List Int
 aft : List Nat → Int → List Nat
 ent : List Int → List Nat → En
 tr : ∀ t s, (ent t s).1 = t
def newE (k : Wk) (set : List Nat) (t : List Int) (e : Int) : List Nat × En := (k.aft set e, k.ent (t ++ [e]) (k.aft set e))
def addL (k : Wk) (set : List Nat) (t : List Int) : List Int → St → Option St
 | [], st => some st
 | e :: r, st => if st.length = 16384 then none else addL k set t r (st ++ [newE k set t e])
def ofGo (k : Wk) (n : Nat) : Nat → Nat → St → Option St
 | 0, _, st => some st
 | f + 1, i, st => match st[i]? with
  | none => some st
  | some p => if p.2.1.length = n then ofGo k n f (i + 1) st else
   match addL k p.1 p.2.1 (k.ev p.1) st with
   | none => none
   | some st' => ofGo k n f (i + 1) st'
def ofB (k : Wk) (n : Nat) (s0 : List Nat) : Option St := ofGo k n 16385 0 [(s0, k.ent [] s0)]
/-- Lengths ascend; none is more than one above the one at i. -/
structure Lv (n i : Nat) (st : St) : Prop where
 up : ∀ (a b : Nat) (p q : List Nat × En), a ≤ b → st[a]? = some p → st[b]? = some q → p.2.1.length ≤ q.2.1.length
 le : ∀ p ∈ st, p.2.1.length ≤ n
 top : ∀ p, st[i]? = some p → ∀ q ∈ st, q.2.1.length ≤ p.2.1.length + 1
theorem lv_start (k : Wk) (n : Nat) (s0 : List Nat) : Lv n 0 [(s0, k.ent [] s0)] := by
 have h : ∀ p ∈ [(s0, k.ent [] s0)], p.2.1.length = 0 := fun p hp => by
  rw [List.mem_singleton.1 hp]
  simp [k.tr]
 refine ⟨fun a b p q _ ha hb => ?_, fun p hp => ?_, fun p _ q hq => ?_⟩
 ·rw [h p (List.mem_of_getElem? ha)]; omega
 ·rw [h p hp]; omega
 ·rw [h q hq]; omega
theorem Lv.next {n i : Nat} {st : St} (h : Lv n i st) : Lv n (i + 1) st := by
 refine ⟨h.up, h.le, fun p hp q hq => ?_⟩
 obtain ⟨p0, hp0⟩ : ∃ p0, st[i]? = some p0 := ⟨_, List.getElem?_eq_getElem (by have := (List.getElem?_eq_some_iff.1 hp).1; omega)⟩
 have h1 := h.top p0 hp0 q hq
 have h2 := h.up i (i + 1) p0 p (by omega) hp0 hp
 omega
theorem Lv.snoc {k : Wk} {n i : Nat} {st : St} {p : List Nat × En} {set : List Nat} {e : Int} (h : Lv n i st) (hp : st[i]? = some p) (hn : p.2.1.length ≠ n) : Lv n i (st ++ [newE k set p.2.1 e]) := by
 have hi := (List.getElem?_eq_some_iff.1 hp).1
 have hl : (newE k set p.2.1 e).2.1.length = p.2.1.length + 1 := by simp [newE, k.tr]
 have hle := h.le p (List.mem_of_getElem? hp)
 refine ⟨fun a b x y hab hx hy => ?_, fun x hx => ?_, fun x hx y hy => ?_⟩
 ·rw [List.getElem?_append] at hx hy
  split at hx <;> split at hy
  ·exact h.up a b x y hab hx hy
  ·have : y = newE k set p.2.1 e := by
    have := List.mem_of_getElem? hy
    exact List.mem_singleton.1 this
   rw [this, hl]
   exact h.top p hp x (List.mem_of_getElem? hx)
  ·omega
  ·rw [List.mem_singleton.1 (List.mem_of_getElem? hx), List.mem_singleton.1 (List.mem_of_getElem? hy)]
   exact Nat.le_refl _
 ·rcases List.mem_append.1 hx with hx | hx
  ·exact h.le x hx
  ·rw [List.mem_singleton.1 hx, hl]; omega
 ·rw [List.getElem?_append_left hi, hp] at hx
  cases hx
  rcases List.mem_append.1 hy with hy | hy
  ·exact h.top p hp y hy
  ·rw [List.mem_singleton.1 hy, hl]; omega
theorem addL_cons {k : Wk} {set : List Nat} {t : List Int} {e : Int} {r : List Int} {st : St} (h : st.length ≠ 16384) : addL k set t (e :: r) st = addL k set t r (st ++ [newE k set t e]) := by rw [addL, if_neg h]
theorem addL_full {k : Wk} {set : List Nat} {t : List Int} {e : Int} {r : List Int} {st : St} (h : st.length = 16384) : addL k set t (e :: r) st = none := by rw [addL, if_pos h]
theorem addL_lv {k : Wk} {n i : Nat} {p : List Nat × En} {set : List Nat} (hn : p.2.1.length ≠ n) : ∀ (l : List Int) (st st' : St), Lv n i st → st[i]? = some p → st.length ≤ 16384 → addL k set p.2.1 l st = some st' → Lv n i st' ∧ st'[i]? = some p ∧ st'.length ≤ 16384
 | [], st, st', h, hp, hs, he => by
  simp only [addL, Option.some.injEq] at he
  subst he
  exact ⟨h, hp, hs⟩
 | e :: r, st, st', h, hp, hs, he => by
  by_cases hf : st.length = 16384
  ·rw [addL_full hf] at he; cases he
  ·rw [addL_cons hf] at he
   exact addL_lv hn r _ st' (h.snoc hp hn) (by rw [List.getElem?_append_left (List.getElem?_eq_some_iff.1 hp).1]; exact hp) (by simp; omega) he
/-- From the first trace of full length on nothing is added. -/
theorem of_done {k : Wk} {n : Nat} : ∀ (f i : Nat) (st : St), (∀ j p, i ≤ j → st[j]? = some p → p.2.1.length = n) → ofGo k n f i st = some st
 | 0, _, _, _ => rfl
 | f + 1, i, st, h => by
  rw [ofGo]
  cases hp : st[i]? with
  | none => rfl
  | some p =>
   simp only
   rw [if_pos (h i p (Nat.le_refl _) hp)]
   exact of_done f (i + 1) st (fun j q hj hq => h j q (by omega) hq)
theorem Lv.stop {k : Wk} {n i f : Nat} {st : St} {p : List Nat × En} (h : Lv n i st) (hp : st[i]? = some p) (hn : p.2.1.length = n) : ofGo k n f i st = some st := by
 refine of_done f i st (fun j q hj hq => ?_)
 have h1 := h.up i j p q hj hp hq
 have h2 := h.le q (List.mem_of_getElem? hq)
 omega
theorem of_end {k : Wk} {n i f : Nat} {st : St} (h : st.length ≤ i) : ofGo k n f i st = some st := by
 cases f with
 | zero => rfl
 | succ f => rw [ofGo, List.getElem?_eq_none h]
theorem of_same {k : Wk} {n i f : Nat} {st : St} {p : List Nat × En} (hp : st[i]? = some p) (hn : p.2.1.length = n) : ofGo k n (f + 1) i st = ofGo k n f (i + 1) st := by
 rw [ofGo, hp]
 simp only
 rw [if_pos hn]
theorem of_step {k : Wk} {n i f : Nat} {st : St} {p : List Nat × En} (hp : st[i]? = some p) (hn : p.2.1.length ≠ n) : ofGo k n (f + 1) i st = (addL k p.1 p.2.1 (k.ev p.1) st).bind (ofGo k n f (i + 1)) := by
 rw [ofGo, hp]
 simp only
 rw [if_neg hn]
 cases addL k p.1 p.2.1 (k.ev p.1) st <;> rfl
end Go.Proofs.YtikpcipkkhmcfaaGreat.Beh

/- Plain: what a behavior is. No program in sight. -/
namespace Go.Proofs.YtikpcipkkhmcfaaGreat.Beh
open Go.Proofs.YtikpcipkkhmcfaaGreat.Ind

/-- The order of traces: by length, then as in books. -/
def ltT (a b : List Int) : Bool := ltN ltL ((a.length : Int), a) ((b.length : Int), b)
theorem sto_T : STO ltT := by
 have O := sto_pair sto_list
 refine ⟨fun a => O.irr _, fun a b c h1 h2 => O.trans _ _ _ h1 h2, fun a b h1 h2 => ?_⟩
 exact congrArg (·.2) (O.tri _ _ h1 h2)
theorem ltT_nil {b : List Int} (h : ltT b [] = true) : False := by
 simp only [ltT, ltN, Bool.or_eq_true, decide_eq_true_eq, Bool.and_eq_true, List.length_nil] at h
 rcases h with h | ⟨h, h1⟩
 ·omega
 ·have : b = [] := List.eq_nil_of_length_eq_zero (by omega)
  subst this
  simp [ltL] at h1
theorem ltL_snoc : ∀ {a b : List Int} (x y : Int), a.length = b.length → ltL a b = true → ltL (a ++ [x]) (b ++ [y]) = true
 | [], [], _, _, _, h => by simp [ltL] at h
 | [], _ :: _, _, _, hl, _ => by simp at hl
 | _ :: _, [], _, _, hl, _ => by simp at hl
 | p :: a, q :: b, x, y, hl, h => by
  simp only [ltL, Bool.or_eq_true, decide_eq_true_eq, Bool.and_eq_true, List.cons_append] at h ⊢
  rcases h with h | ⟨h1, h2⟩
  ·exact .inl h
  ·exact .inr ⟨h1, ltL_snoc x y (by simpa using hl) h2⟩
theorem ltL_snoc2 (a : List Int) {x y : Int} (h : x < y) : ltL (a ++ [x]) (a ++ [y]) = true := by
 induction a with
 | nil => simp [ltL, h]
 | cons p a ih => simp [ltL, ih]
theorem ltT_snoc {a b : List Int} (x y : Int) (h : ltT a b = true) : ltT (a ++ [x]) (b ++ [y]) = true := by
 simp only [ltT, ltN, Bool.or_eq_true, decide_eq_true_eq, Bool.and_eq_true, List.length_append, List.length_singleton] at h ⊢
 rcases h with h | ⟨h1, h2⟩
 ·exact .inl (by omega)
 ·exact .inr ⟨by omega, ltL_snoc x y (by omega) h2⟩
theorem ltT_snoc2 (a : List Int) {x y : Int} (h : x < y) : ltT (a ++ [x]) (a ++ [y]) = true := by
 simp only [ltT, ltN, Bool.or_eq_true, decide_eq_true_eq, Bool.and_eq_true, List.length_append, List.length_singleton]
 exact .inr ⟨trivial, ltL_snoc2 a h⟩
theorem ltT_more (a : List Int) (x : Int) : ltT a (a ++ [x]) = true := by
 simp only [ltT, ltN, Bool.or_eq_true, decide_eq_true_eq, Bool.and_eq_true, List.length_append, List.length_singleton]
 exact .inl (by omega)
/-- Events that can be seen. -/
def visB (l : List Int) : Bool := l.all fun e => decide (1 ≤ e) && decide (e ≤ 1025)
theorem visB_iff {l : List Int} : visB l = true ↔ ∀ e ∈ l, 1 ≤ e ∧ e ≤ 1025 := by simp [visB, List.all_eq_true]
/-- An ascending list is seen from its ends. -/
theorem visB_ends {l : List Int} (h : Ind.ascB l = true) : visB l = true ↔ ∀ a z, l.head? = some a → l.getLast? = some z → 1 ≤ a ∧ z ≤ 1025 := by
 have hp := asc_of_ascB h
 rw [visB_iff]
 constructor
 ·intro hv a z ha hz
  exact ⟨(hv a (List.mem_of_mem_head? ha)).1, (hv z (List.mem_of_getLast? hz)).2⟩
 ·intro hv e he
  cases l with
  | nil => cases he
  | cons a r =>
   obtain ⟨z, hz⟩ : ∃ z, (a :: r).getLast? = some z := ⟨(a :: r).getLast (by simp), List.getLast?_eq_some_getLast (by simp)⟩
   obtain ⟨h1, h2⟩ := hv a z rfl hz
   have h3 := Ind.ascB_last h hz e he
   rcases List.mem_cons.1 he with rfl | he
   ·exact ⟨h1, by omega⟩
   ·have := (List.pairwise_cons.1 hp).1 e he
    exact ⟨by omega, by omega⟩
/-- Sets of which none lies in another, ascending. -/
structure Anti (l : List (List Int)) : Prop where
 rise : ∀ x ∈ l, Ind.ascB x = true
 asc : Asc ltL l
 none : ∀ x ∈ l, ∀ y ∈ l, y ≠ x → subI y x = false
theorem anti_minS {l : List (List Int)} (h : ∀ x ∈ l, Ind.ascB x = true) : Anti (minS l) :=
 ⟨fun x hx => h x (mem_minS.1 hx).1, asc_minS l, fun _ hx y hy hne => (mem_minS.1 hx).2 y (mem_minS.1 hy).1 hne⟩
theorem anti_minL (l : List (List Int)) : Anti (minL l) := by
 unfold minL
 split
 ·rename_i h
  exact anti_minS (fun x hx => List.all_eq_true.1 h x hx)
 ·exact ⟨by simp, List.Pairwise.nil, by simp⟩
theorem minL_anti {l : List (List Int)} (h : Anti l) : minL l = l := by
 rw [minL, if_pos (List.all_eq_true.2 h.rise)]
 refine asc_uniq sto_list (asc_minS l) h.asc (fun x => ?_)
 rw [mem_minS]
 exact ⟨fun hx => hx.1, fun hx => ⟨hx, h.none x hx⟩⟩
theorem minL_iff {l : List (List Int)} : minL l = l ↔ Anti l := ⟨fun h => h ▸ anti_minL l, minL_anti⟩
theorem mem_minL {l : List (List Int)} {x : List Int} (h : x ∈ minL l) : x ∈ l := by
 unfold minL at h
 split at h
 ·exact (mem_minS.1 h).1
 ·cases h
structure EntOk (x : En) : Prop where
 short : x.1.length ≤ 24
 vis : visB x.1 = true
 acc : ∀ a ∈ x.2.1, visB a = true
 anti : Anti x.2.1
/-- A behavior. -/
structure VB (b : List En) : Prop where
 head : ∃ p, b[0]? = some p ∧ p.1 = []
 ent : ∀ x ∈ b, EntOk x
 asc : ∀ i x y, b[i]? = some x → b[i + 1]? = some y → ltT x.1 y.1 = true
 pre : ∀ x ∈ b, x.1 ≠ [] → ∃ y ∈ b, y.1 = x.1.dropLast
theorem VB.lt {b : List En} (h : VB b) : ∀ {i j : Nat} {x y : En}, i < j → b[i]? = some x → b[j]? = some y → ltT x.1 y.1 = true := by
 intro i j x y hij hi hj
 induction j generalizing y with
 | zero => omega
 | succ j ih =>
  obtain ⟨z, hz⟩ : ∃ z, b[j]? = some z := ⟨_, List.getElem?_eq_getElem (by have := (List.getElem?_eq_some_iff.1 hj).1; omega)⟩
  have h1 := h.asc j z y hz hj
  by_cases hj2 : i = j
  ·subst hj2
   rw [hi] at hz
   cases hz
   exact h1
  ·exact sto_T.trans _ _ _ (ih (by omega) hz) h1
theorem VB.uniq {b : List En} (h : VB b) {i j : Nat} {x y : En} (hi : b[i]? = some x) (hj : b[j]? = some y) (e : x.1 = y.1) : i = j := by
 rcases Nat.lt_trichotomy i j with h1 | h1 | h1
 ·have := h.lt h1 hi hj
  rw [e, sto_T.irr] at this
  cases this
 ·exact h1
 ·have := h.lt h1 hj hi
  rw [e, sto_T.irr] at this
  cases this
/-- The first entry with the trace. -/
def findE (b : List En) (t : List Int) : Option En := b.find? fun x => decide (x.1 = t)
theorem VB.find {b : List En} (h : VB b) {i : Nat} {x : En} (hi : b[i]? = some x) : findE b x.1 = some x := by
 unfold findE
 rw [List.find?_eq_some_iff_getElem]
 obtain ⟨hl, e⟩ := List.getElem?_eq_some_iff.1 hi
 refine ⟨by simp, i, hl, e, fun j hj => ?_⟩
 simp only [Bool.not_eq_true', decide_eq_false_iff_not]
 intro e2
 have := h.uniq (List.getElem?_eq_getElem (Nat.lt_trans hj hl)) hi e2
 omega
theorem findE_none {b : List En} {t : List Int} : findE b t = none ↔ ∀ x ∈ b, x.1 ≠ t := by
 unfold findE
 simp [List.find?_eq_none]
theorem findE_mem {b : List En} {t : List Int} {x : En} (h : findE b t = some x) : x ∈ b ∧ x.1 = t := by
 unfold findE at h
 exact ⟨List.mem_of_find?_eq_some h, by simpa using List.find?_some h⟩
end Go.Proofs.YtikpcipkkhmcfaaGreat.Beh

/- Behaviors in memory, only read. No function of the program. -/
namespace Go.Proofs.YtikpcipkkhmcfaaGreat.Beh
open Go.RowKit Go.Proofs.YtikpcipkkhmcfaaGreat

/-- Sets of numbers. -/
def SetsAt (w : World) (F : List Nat) (v : Value) (l : List (List Int)) : Prop :=
 ∃ ps : List (Value × List Int), ps.map (·.2) = l ∧ RowV w F v l.length 1 (ps.map (·.1)) ∧ ∀ p ∈ ps, RowV w F p.1 p.2.length 1 (ints p.2)
/-- The values of an entry's trace and acceptances, and the entry. -/
abbrev EV := (Value × Value) × En
def enE (p : EV) : List Value := [p.1.1, p.1.2, .bool p.2.2.2]
def EntAt (w : World) (F : List Nat) (p : EV) : Prop := RowV w F p.1.1 p.2.1.length 1 (ints p.2.1) ∧ SetsAt w F p.1.2 p.2.2.1
/-- A behavior. -/
def BehAt (w : World) (F : List Nat) (v : Value) (b : List En) : Prop :=
 ∃ ps : List EV, ps.map (·.2) = b ∧ RowV w F v b.length 3 (ps.flatMap enE) ∧ ∀ p ∈ ps, EntAt w F p
theorem flat3_len (l : List EV) : (l.flatMap enE).length = l.length * 3 := by
 induction l with
 | nil => rfl
 | cons p r ih => rw [List.flatMap_cons, List.length_append, ih, List.length_cons, enE, List.length_cons, List.length_cons, List.length_cons, List.length_nil]; omega
theorem flat3_get : ∀ {l : List EV} {i : Nat} {p : EV}, l[i]? = some p → ∀ j, j < 3 → (l.flatMap enE)[i * 3 + j]? = (enE p)[j]?
 | [], i, p, h, j, hj => by simp at h
 | q :: r, 0, p, h, j, hj => by
  simp only [List.getElem?_cons_zero, Option.some.injEq] at h
  subst h
  rw [List.flatMap_cons, Nat.zero_mul, Nat.zero_add, List.getElem?_append_left (by simp [enE]; omega)]
 | q :: r, i + 1, p, h, j, hj => by
  rw [List.getElem?_cons_succ] at h
  rw [List.flatMap_cons, List.getElem?_append_right (by simp [enE]; omega), show (i + 1) * 3 + j - (enE q).length = i * 3 + j by simp [enE]; omega]
  exact flat3_get h j hj
section
variable {w w' : World} {F F' fp : List Nat} {v : Value} {l : List (List Int)} {p : EV} {b : List En}
theorem SetsAt.step (h : SetsAt w F v l) (hf : Frm fp w w') (hn : ∀ k ∈ fp, k ∈ F ∨ w.heap.size ≤ k) (hF : ∀ k ∈ F', k ∈ F ∨ w.heap.size ≤ k) : SetsAt w' F' v l := by
 obtain ⟨ps, h1, h2, h3⟩ := h
 exact ⟨ps, h1, h2.step hf hn hF, fun p hp => (h3 p hp).step hf hn hF⟩
theorem SetsAt.nil (h : SetsAt w F v l) (hf : Frm [] w w') : SetsAt w' F v l := h.step hf (by simp) (fun _ hk => .inl hk)
theorem EntAt.step (h : EntAt w F p) (hf : Frm fp w w') (hn : ∀ k ∈ fp, k ∈ F ∨ w.heap.size ≤ k) (hF : ∀ k ∈ F', k ∈ F ∨ w.heap.size ≤ k) : EntAt w' F' p := ⟨h.1.step hf hn hF, h.2.step hf hn hF⟩
theorem EntAt.nil (h : EntAt w F p) (hf : Frm [] w w') : EntAt w' F p := h.step hf (by simp) (fun _ hk => .inl hk)
theorem BehAt.step (h : BehAt w F v b) (hf : Frm fp w w') (hn : ∀ k ∈ fp, k ∈ F ∨ w.heap.size ≤ k) (hF : ∀ k ∈ F', k ∈ F ∨ w.heap.size ≤ k) : BehAt w' F' v b := by
 obtain ⟨ps, h1, h2, h3⟩ := h
 exact ⟨ps, h1, h2.step hf hn hF, fun p hp => (h3 p hp).step hf hn hF⟩
theorem BehAt.nil (h : BehAt w F v b) (hf : Frm [] w w') : BehAt w' F v b := h.step hf (by simp) (fun _ hk => .inl hk)
theorem SetsAt.shape (h : SetsAt w F v l) : ∃ a c, v = .slice a l.length c := by
 obtain ⟨_, _, h2, _⟩ := h
 exact h2.shape
theorem BehAt.shape (h : BehAt w F v b) : ∃ a c, v = .slice a b.length c := by
 obtain ⟨_, _, h2, _⟩ := h
 exact h2.shape
theorem EntAt.shape (h : EntAt w F p) : ∃ ta tc aa ac, p.1 = (.slice ta p.2.1.length tc, .slice aa p.2.2.1.length ac) := by
 obtain ⟨ta, tc, h1⟩ := h.1.shape
 obtain ⟨aa, ac, h2⟩ := h.2.shape
 exact ⟨ta, tc, aa, ac, Prod.ext h1 h2⟩
/-- Set i. -/
theorem SetsAt.at_ (h : SetsAt w F v l) {i : Nat} {x : List Int} (hx : l[i]? = some x) : ∃ bk o c xa xc, v = .slice (some ⟨bk, o, none⟩) l.length c ∧ w.cell? ⟨bk, o + i, none⟩ = some (.slice xa x.length xc) ∧ RowV w F (.slice xa x.length xc) x.length 1 (ints x) := by
 obtain ⟨ps, h1, h2, h3⟩ := h
 rw [← h1, List.getElem?_map] at hx
 obtain ⟨p, hp, rfl⟩ := Option.map_eq_some_iff.1 hx
 have hr := h3 p (List.mem_of_getElem? hp)
 obtain ⟨xa, xc, e⟩ := hr.shape
 obtain ⟨_, a, c, e1, _, _, _, hc⟩ := h2
 obtain ⟨bk, o, e2, _, _, hcell⟩ := hc i p.1 (by rw [List.getElem?_map, hp]; rfl)
 subst e2
 rw [e] at hcell hr
 exact ⟨bk, o, c, xa, xc, e1, hcell, hr⟩
/-- Entry i: its cells. -/
theorem BehAt.at_ (h : BehAt w F v b) {i : Nat} {x : En} (hx : b[i]? = some x) : ∃ bk o c ta tc aa ac, v = .slice (some ⟨bk, o, none⟩) b.length c ∧ w.cell? ⟨bk, o + i * 3, none⟩ = some (.slice ta x.1.length tc) ∧ w.cell? ⟨bk, o + (i * 3 + 1), none⟩ = some (.slice aa x.2.1.length ac) ∧ w.cell? ⟨bk, o + (i * 3 + 2), none⟩ = some (.bool x.2.2) ∧ RowV w F (.slice ta x.1.length tc) x.1.length 1 (ints x.1) ∧ SetsAt w F (.slice aa x.2.1.length ac) x.2.1 := by
 obtain ⟨ps, h1, h2, h3⟩ := h
 rw [← h1, List.getElem?_map] at hx
 obtain ⟨p, hp, rfl⟩ := Option.map_eq_some_iff.1 hx
 have he := h3 p (List.mem_of_getElem? hp)
 obtain ⟨ta, tc, aa, ac, e⟩ := he.shape
 obtain ⟨_, a, c, e1, _, _, _, hc⟩ := h2
 have g0 := flat3_get hp 0 (by decide)
 have g1 := flat3_get hp 1 (by decide)
 have g2 := flat3_get hp 2 (by decide)
 obtain ⟨bk, o, e2, _, _, c0⟩ := hc (i * 3) p.1.1 (by rw [Nat.add_zero] at g0; rw [g0]; rfl)
 obtain ⟨bk1, o1, e3, _, _, c1⟩ := hc (i * 3 + 1) p.1.2 (by rw [g1]; rfl)
 obtain ⟨bk2, o2, e4, _, _, c2⟩ := hc (i * 3 + 2) (.bool p.2.2.2) (by rw [g2]; rfl)
 subst e2
 obtain ⟨rfl, rfl⟩ : bk = bk1 ∧ o = o1 := by simpa using e3
 obtain ⟨rfl, rfl⟩ : bk = bk2 ∧ o = o2 := by simpa using e4
 rw [e] at c0 c1
 have h5 := he.1
 have h6 := he.2
 rw [e] at h5 h6
 exact ⟨bk, o, c, ta, tc, aa, ac, e1, c0, c1, c2, h5, h6⟩
end
end Go.Proofs.YtikpcipkkhmcfaaGreat.Beh

/- Orders of traces: the program's and the reference's comparisons; the models. (cmpL cut from KG, KJ.) -/
namespace Go.Proofs.YtikpcipkkhmcfaaGreat.Beh
open Go.RowKit Go.Lib Go.Proofs.YtikpcipkkhmcfaaGreat Go.Proofs.YtikpcipkkhmcfaaGreat.Ind

/-- slices.Compare. -/
def cmpL : List Int → List Int → Int
 | [], [] => 0
 | [], _ :: _ => -1
 | _ :: _, [] => 1
 | a :: r, b :: s => if cmpI a b = 0 then cmpL r s else cmpI a b
set_option maxRecDepth 100000 in
theorem cmpL_any (B : Nat) (a b : Option Addr) (ca cb : Nat) (xs ys : List Int) (w : World) (h1 : Rd B w a xs.length ca 1 (ints xs)) (h2 : Rd B w b ys.length cb 1 (ints ys)) :
  Calls Tryz.prog 79 #[.slice a xs.length ca, .slice b ys.length cb] w fun e w' => e = .returned (.int .i64 (cmpL xs ys)) ∧ w = w' := by
 have l1 := h1.lt
 have l2 := h2.lt
 obtain ⟨R, hR⟩ : ∃ R, cmpL xs ys = R := ⟨_, rfl⟩
 rw [hR]
 have HR := Lib.hid hR
 have H1 := Lib.hid h1
 have H2 := Lib.hid h2
 clear h1 h2 hR
 go_enter Tryz.func79, Tryz.ntmps79
 go_wp2_with fail
 go_loopg [11] xs.length (fun q i wr => ∃ (k : Nat), q = xs.length - k ∧ k ≤ xs.length ∧ k ≤ ys.length ∧ i = .int .i64 k ∧ cmpL (xs.drop k) (ys.drop k) = R ∧ w = wr)
 case atStart => exact ⟨0, rfl, Nat.zero_le _, Nat.zero_le _, rfl, HR.out, rfl⟩
 case round =>
  clear HR
  obtain ⟨k, rfl, hk, hk2, rfl, hd, rfl⟩ := hrel
  have i4 : (0 : Int) ≤ (k : Int) := by omega
  by_cases hlt : k < xs.length
  ·have i5 : (k : Int) < (xs.length : Int) := by omega
   obtain ⟨x, hx⟩ : ∃ x, xs[k]? = some x := ⟨_, List.getElem?_eq_getElem hlt⟩
   obtain ⟨g, o, rfl, _, d1⟩ := H1.out.at hx
   rw [drop_cons hx] at hd
   by_cases hlt2 : k < ys.length
   ·have i6 : (k : Int) < (ys.length : Int) := by omega
    obtain ⟨y, hy⟩ : ∃ y, ys[k]? = some y := ⟨_, List.getElem?_eq_getElem hlt2⟩
    obtain ⟨g', o', rfl, _, d2⟩ := H2.out.at hy
    rw [drop_cons hy, cmpL] at hd
    by_cases hc : cmpI x y = 0
    ·rw [if_pos hc] at hd
     have HD := Lib.hid hd
     have hcall := cmpI_any x y w
     rw [hc] at hcall
     clear hx hy hd hc
     go_wp2_with (go_at_call 78; refine hcall.mono ?_; rintro e1 w1 ⟨rfl, rfl⟩)
     go_roundg (xs.length - (k + 1))
     case rel => exact ⟨k + 1, rfl, by omega, by omega, by go_num, HD.out, rfl⟩
     case measure => omega
    ·rw [if_neg hc] at hd
     have HD := Lib.hid hd
     have hb : (cmpI x y != 0) = true := by simpa using hc
     have hcall := cmpI_any x y w
     generalize cmpI x y = z at *
     clear hx hy hd
     go_wp2_with (go_at_call 78; refine hcall.mono ?_; rintro e1 w1 ⟨rfl, rfl⟩)
     go_ret
     exact ⟨by rw [← HD.out]; rfl, rfl⟩
   ·have i6 : (ys.length : Int) ≤ (k : Int) := by omega
    have e9 : ys.drop k = [] := List.drop_eq_nil_of_le (by omega)
    rw [e9, cmpL] at hd
    subst hd
    clear hx
    go_wp2_with fail
    go_ret
    exact ⟨rfl, rfl⟩
  ·have i5 : ¬ (k : Int) < (xs.length : Int) := by omega
   have e9 : xs.drop k = [] := List.drop_eq_nil_of_le (by omega)
   rw [e9] at hd
   by_cases hlt2 : k < ys.length
   ·have i6 : (xs.length : Int) < (ys.length : Int) := by omega
    obtain ⟨y, hy⟩ : ∃ y, ys[k]? = some y := ⟨_, List.getElem?_eq_getElem hlt2⟩
    rw [drop_cons hy, cmpL] at hd
    subst hd
    clear hy
    go_wp2_with fail
    go_ret
    exact ⟨rfl, rfl⟩
   ·have i6 : ¬ (xs.length : Int) < (ys.length : Int) := by omega
    have e9 : ys.drop k = [] := List.drop_eq_nil_of_le (by omega)
    rw [e9, cmpL] at hd
    subst hd
    go_wp2_with fail
    go_ret
    exact ⟨rfl, rfl⟩

theorem cmpI_neg {x y : Int} : cmpI x y < 0 ↔ x < y := by unfold cmpI; repeat' split <;> omega
theorem cmpI_zero {x y : Int} : cmpI x y = 0 ↔ x = y := by unfold cmpI; repeat' split <;> omega
theorem cmpL_neg : ∀ (a b : List Int), (cmpL a b < 0 ↔ ltL a b = true)
 | [], [] => by simp [cmpL, ltL]
 | [], _ :: _ => by simp [cmpL, ltL]
 | _ :: _, [] => by simp [cmpL, ltL]
 | a :: r, b :: s => by
  have ih := cmpL_neg r s
  rw [cmpL, ltL]
  simp only [Bool.or_eq_true, Bool.and_eq_true, decide_eq_true_eq]
  split
  ·rename_i h
   rw [ih]
   rw [cmpI_zero] at h
   constructor
   ·exact fun h2 => .inr ⟨h, h2⟩
   ·rintro (h2 | h2)
    ·omega
    ·exact h2.2
  ·rename_i h
   rw [cmpI_neg]
   rw [cmpI_zero] at h
   constructor
   ·exact .inl
   ·rintro (h2 | h2)
    ·exact h2
    ·exact absurd h2.1 h

theorem cmpT_neg (a b : List Int) : or2 (cmpI a.length b.length) (cmpL a b) < 0 ↔ ltT a b = true := by
 have h := cmpL_neg a b
 have h1 := @cmpI_neg (a.length : Int) b.length
 have h2 := @cmpI_zero (a.length : Int) b.length
 unfold or2 ltT ltN
 simp only [Bool.or_eq_true, decide_eq_true_eq, Bool.and_eq_true]
 split
 ·rename_i h0
  rw [h]
  have h3 := h2.1 h0
  exact ⟨fun h => .inr ⟨h3, h⟩, fun h => h.elim (fun h => by omega) (fun h => h.2)⟩
 ·rename_i h0
  rw [h1]
  exact ⟨.inl, fun h => h.elim id (fun h => absurd (h2.2 h.1) h0)⟩
set_option maxRecDepth 100000 in
set_option maxHeartbeats 2000000 in
theorem compare_any {F G : List Nat} (w : World) (u v : Value) (a b : List Int) (h1 : RowV w F u a.length 1 (ints a)) (h2 : RowV w G v b.length 1 (ints b)) :
  Calls Tryz.prog 46 #[u, v] w fun e w' => e = .returned (.int .i64 (or2 (cmpI a.length b.length) (cmpL a b))) ∧ Frm [] w w' := by
 obtain ⟨aa, ac, rfl⟩ := RowV.shape h1
 obtain ⟨ba, bc, rfl⟩ := RowV.shape h2
 have l1 := h1.rd.lt
 have l2 := h2.rd.lt
 have HL := Lib.hid (cmpL_any w.heap.size aa ba ac bc a b w h1.rd h2.rd)
 clear h1 h2
 go_enter Tryz.func46, Tryz.ntmps46
 obtain ⟨p, hp⟩ : ∃ p, p = cmpI a.length b.length := ⟨_, rfl⟩
 obtain ⟨q, hq⟩ : ∃ q, q = cmpL a b := ⟨_, rfl⟩
 have HC := Lib.hid (cmpI_any a.length b.length w)
 rw [← hp] at HC ⊢
 rw [← hq] at HL ⊢
 clear hp hq
 go_wp2_with (first
  | (go_at_call 78; refine HC.out.mono ?_; rintro e1 w1 ⟨rfl, rfl⟩)
  | (go_at_call 79; refine HL.out.mono ?_; rintro e2 w2 ⟨rfl, rfl⟩)
  | (go_at_call 77; refine (or2_any p q w.heap.size _ ((RowAt.made w 3 [.int .i64 p, .int .i64 q] #[.int .i64 p, .int .i64 q] rfl).cell (i := 0) rfl) ((RowAt.made w 3 [.int .i64 p, .int .i64 q] #[.int .i64 p, .int .i64 q] rfl).cell (i := 1) rfl)).mono ?_; rintro e3 w3 ⟨rfl, rfl⟩)
  | fail)
 go_ret
 exact ⟨rfl, (Frm.refl [] w).alloc _⟩
/-- One of the three models. -/
def modB (m : Int) : Bool := decide (m = 1) || (decide (m = 2) || decide (m = 3))
set_option maxRecDepth 100000 in
theorem known_any (m : Int) (w : World) : Calls Tryz.prog 62 #[.int .i64 m] w fun e w' => e = .returned (.bool (modB m)) ∧ Frm [] w w' := by
 rcases (show m = 1 ∨ m = 2 ∨ m = 3 ∨ (m ≠ 1 ∧ m ≠ 2 ∧ m ≠ 3) by omega) with rfl | rfl | rfl | ⟨h1, h2, h3⟩
 ·go_enter Tryz.func62, Tryz.ntmps62
  go_wp2_with fail
  go_ret
  exact ⟨rfl, Frm.refl _ _⟩
 ·go_enter Tryz.func62, Tryz.ntmps62
  go_wp2_with fail
  go_ret
  exact ⟨rfl, Frm.refl _ _⟩
 ·go_enter Tryz.func62, Tryz.ntmps62
  go_wp2_with fail
  go_ret
  exact ⟨rfl, Frm.refl _ _⟩
 ·have hm : Hid (modB m = false) := Lib.hid (by simp [modB, h1, h2, h3])
  have e1 : (m == 1) = false := by simpa using h1
  have e2 : (m == 2) = false := by simpa using h2
  have e3 : (m == 3) = false := by simpa using h3
  go_enter Tryz.func62, Tryz.ntmps62
  go_wp2_with fail
  go_ret
  exact ⟨by rw [hm.out]; rfl, Frm.refl _ _⟩
set_option maxRecDepth 100000 in
theorem modelOK_any (m : Int) (w : World) : Calls Tryz.prog 82 #[.int .i64 m] w fun e w' => e = .returned (.bool (modB m)) ∧ Frm [] w w' := by
 rcases (show m = 1 ∨ m = 2 ∨ m = 3 ∨ (m ≠ 1 ∧ m ≠ 2 ∧ m ≠ 3) by omega) with rfl | rfl | rfl | ⟨h1, h2, h3⟩
 ·go_enter Tryz.func82, Tryz.ntmps82
  go_wp2_with fail
  go_ret
  exact ⟨rfl, Frm.refl _ _⟩
 ·go_enter Tryz.func82, Tryz.ntmps82
  go_wp2_with fail
  go_ret
  exact ⟨rfl, Frm.refl _ _⟩
 ·go_enter Tryz.func82, Tryz.ntmps82
  go_wp2_with fail
  go_ret
  exact ⟨rfl, Frm.refl _ _⟩
 ·have hm : Hid (modB m = false) := Lib.hid (by simp [modB, h1, h2, h3])
  have e1 : (m == 1) = false := by simpa using h1
  have e2 : (m == 2) = false := by simpa using h2
  have e3 : (m == 3) = false := by simpa using h3
  go_enter Tryz.func82, Tryz.ntmps82
  go_wp2_with fail
  go_ret
  exact ⟨by rw [hm.out]; rfl, Frm.refl _ _⟩
end Go.Proofs.YtikpcipkkhmcfaaGreat.Beh

/- Merged text: GA, GB, GS of the notes. -/
/- Contract of Insert of the reference at nil; both together. -/
namespace Go.Proofs.YtikpcipkkhmcfaaGreat
open Go.RowKit

/-- append of nil to a row that the call has made; the walk stands still behind it. -/
theorem wpl_app_nil {w : World} {ops : Array Oper} {rest : List Oper} {o : Oper} {a : Act} {Q : Exit → Act → World → Prop} (hgd : o.guard = none) (s x : Operand)
  (ho : o.op = .call { callee := .builtin .append, args := #[s, x], argTypes := #[63, 63] })
  (B n : Nat) (v : Value) (row : List Arc) (hs : a.eval s = v) (hown : OwnR B w v row) (hn : row.length = n) (hx : a.eval x = .slice none 0 0)
  (h : ∀ a' cp w', OwnR B w' (.slice a' n cp) row → (∀ w0 : World, w0.heap.size ≤ B → Frm [] w0 w → Frm [] w0 w') → wpList Tryz.prog ops Q rest (a.put o.dst (.slice a' n cp)) w') : wpList Tryz.prog ops Q (o :: rest) a w := by
 obtain ⟨i0, hi, hz0, hz1, hz2⟩ := info_parts infoArc
 subst hn
 obtain ⟨a', cp, rfl, _⟩ := owns_shape (ownsB_mono hown (Nat.zero_le B))
 exact wpList_append_own_none hgd s x 63 ho B 66 i0 2 Tryz.underlying63 hi _ row.length (flatA row) hs hown hx (h a' cp w hown (fun _ _ hF => hF))

theorem own_empty2 (w : World) (B k : Nat) (hk : w.heap.size = k) (hB : B ≤ k) : OwnR B (w.alloc (.cells #[] 66)) (.slice (some ⟨k, 0, none⟩) 0 0) [] := by
 subst hk
 exact own_empty w B hB

set_option maxRecDepth 100000 in
set_option maxHeartbeats 2000000 in
theorem insert_nil (B : Nat) (x y : Int) (w : World) (hB0 : B ≤ w.heap.size) :
  Calls Tryz.prog 36 #[.slice none 0 0, .agg #[.int .i64 x, .int .i64 y]] w fun e w' => ∃ a cp, e = .returned (.slice a 1 cp) ∧ OwnR B w' (.slice a 1 cp) [(x, y)] ∧ Frm [] w w' := by
 obtain ⟨i0, hi, hz0, hz1, hz2⟩ := info_parts infoArc
 have f0 : Frm [] w (w.alloc (.cells #[.int .i64 x, .int .i64 y] 66)) := (Frm.refl [] w).alloc _
 have hbox := RowAt.made w 66 [.int .i64 x, .int .i64 y] #[.int .i64 x, .int .i64 y] rfl
 have HBOX := Lib.hid hbox
 clear hbox
 have hsz0 : (w.alloc (.cells #[.int .i64 x, .int .i64 y] 66)).heap.size = w.heap.size + 1 := by simp
 have hsz : (w.alloc (.cells #[.int .i64 x, .int .i64 y] 66)).heap.size ≤ w.heap.size + 1 := by simp
 go_enter Tryz.func36, Tryz.ntmps36
 go_wp2_with fail
 refine wp_loop_rounds 1 ?_
 rw [rounds_succ]
 go_wp2_with fail
 go_quiet (fail)
 go_wp2_with fail
 go_quiet (fail)
 go_wp2_with (first | (at_builtin; refine wpl_app_nil rfl (.tmp 34) (.tmp 37) rfl (w.heap.size + 1) 0 _ [] rfl (own_empty2 _ _ (w.heap.size + 1) (by exact hsz0) (Nat.le_refl _)) rfl rfl ?_) | (at_builtin; fail))
 intro a6 cp6 w6 hown6 hf6
 have G6 := hf6 (w.alloc (.cells #[.int .i64 x, .int .i64 y] 66)) hsz (((Frm.refl [] _).drewN _).alloc _)
 have F6 := f0.trans G6 (by simp)
 have p0 := (HBOX.out.frm G6 (by simp)).cell (i := 0) rfl
 have p1 := (HBOX.out.frm G6 (by simp)).cell (i := 1) rfl
 clear hf6
 go_wp2_with (first | (at_builtin; refine wpl_app_arc rfl (.tmp 39) (.tmp 41) rfl (w.heap.size + 1) 0 1 (.slice a6 0 cp6) [] rfl (hown6.alloc _) rfl ⟨w6.heap.size, 0, none⟩ 1 1 [(x, y)] rfl rfl (cells_new w6 [.int .i64 x, .int .i64 y] _) rfl (by omega) (by have := G6.size; simp at this ⊢; omega) ?_) | (at_builtin; fail))
 intro a7 cp7 w7 hown7 hf7
 have G7 := hf7 (w.alloc (.cells #[.int .i64 x, .int .i64 y] 66)) hsz (G6.alloc _)
 have F7 := f0.trans G7 (by simp)
 clear hf7 p0 p1 hown6
 go_wp2_with (first | (at_builtin; refine wpl_app_nil rfl (.tmp 43) (.tmp 46) rfl (w.heap.size + 1) 1 (.slice a7 1 cp7) [(x, y)] rfl hown7 rfl rfl ?_) | (at_builtin; fail))
 intro a8 cp8 w8 hown8 hf8
 have F8 := f0.trans (hf8 (w.alloc (.cells #[.int .i64 x, .int .i64 y] 66)) hsz G7) (by simp)
 clear hf8 hown7
 go_wp2_with fail
 go_ret
 exact ⟨a8, cp8, rfl, ownsB_mono hown8 (by omega), F8⟩

/-- Insert: any row that the call has made. -/
theorem insert_any (B : Nat) (a : Option Addr) (cap : Nat) (row : List Arc) (x y : Int) (w : World) (hB0 : B ≤ w.heap.size) (h : OwnR B w (.slice a row.length cap) row) (hz : row = [] → a = none ∧ cap = 0) (hl : row.length ≤ 1000000) :
  Calls Tryz.prog 36 #[.slice a row.length cap, .agg #[.int .i64 x, .int .i64 y]] w fun e w' => ∃ a cp, e = .returned (.slice a (insA row (x, y)).length cp) ∧ OwnR B w' (.slice a (insA row (x, y)).length cp) (insA row (x, y)) ∧ Frm [] w w' := by
 by_cases h0 : row = []
 ·obtain ⟨rfl, rfl⟩ := hz h0
  subst h0
  exact insert_nil B x y w hB0
 ·have hpos : 0 < row.length := List.length_pos_iff.2 h0
  obtain ⟨ad, cp, hs⟩ : ∃ g cp, (Value.slice a row.length cap) = .slice (some (⟨g, 0, none⟩ : Addr)) row.length cp := by
   rcases h.2 with h1 | ⟨g, cp, cur, h1, _⟩
   ·have := h1.1
    simp at this
    omega
   ·exact ⟨g, cp, h1⟩
  simp only [Value.slice.injEq, true_and] at hs
  obtain ⟨rfl, _⟩ := hs
  exact insert_some B ad cap row x y w hB0 h hl hpos

theorem insA_ne (row : List Arc) (x : Arc) : insA row x ≠ [] := by
 unfold insA
 split
 ·rintro rfl
  simp [insAt] at *
 ·simp

end Go.Proofs.YtikpcipkkhmcfaaGreat

/- A system that the call has made: its outer row at block g, its rows behind it. Laws of Insert. -/
namespace Go.Proofs.YtikpcipkkhmcfaaGreat
open Go.RowKit

/-! ### Insert keeps rows valid -/
theorem insA_cons (a : Arc) (r : List Arc) (x : Arc) : insA (a :: r) x = if ltA a x then a :: insA r x else if a = x then a :: r else x :: a :: r := by
 unfold insA insAt
 cases h : ltA a x with
 | true =>
  simp only [List.takeWhile_cons, h, if_true, List.length_cons, List.getElem?_cons_succ, List.take_succ_cons, List.drop_succ_cons, List.cons_append]
  split <;> rfl
 | false => simp [h]
theorem insA_nil (x : Arc) : insA [] x = [x] := by simp [insA, insAt]
theorem ltA_tri {a x : Arc} (h : ltA a x = false) (hn : a ≠ x) : ltA x a = true := by
 obtain ⟨e, t⟩ := a
 obtain ⟨f, u⟩ := x
 simp only [ltA, Bool.or_eq_false_iff, decide_eq_false_iff_not, Bool.and_eq_false_iff, Bool.or_eq_true, decide_eq_true_eq, Bool.and_eq_true] at h ⊢
 have : ¬ (e = f ∧ t = u) := fun h2 => hn (by rw [h2.1, h2.2])
 omega
theorem ascB_cons (a : Arc) (s : List Arc) : ascB (a :: s) = true ↔ ascB s = true ∧ ∀ b, s.head? = some b → ltA a b = true := by
 cases s with
 | nil => simp [ascB]
 | cons b r => simp [ascB, and_comm]
theorem insA_head (r : List Arc) (x b : Arc) (h : (insA r x).head? = some b) : b = x ∨ r.head? = some b := by
 cases r with
 | nil => rw [insA_nil] at h; simp at h; exact .inl h.symm
 | cons a s =>
  rw [insA_cons] at h
  split at h
  ·simp at h; exact .inr (by simp [h])
  ·split at h
   ·simp at h; exact .inr (by simp [h])
   ·simp at h; exact .inl h.symm
theorem ascB_insA {r : List Arc} (h : ascB r = true) (x : Arc) : ascB (insA r x) = true := by
 induction r with
 | nil => rw [insA_nil]; rfl
 | cons a s ih =>
  rw [insA_cons]
  have hc := (ascB_cons a s).1 h
  split
  ·rename_i hlt
   refine (ascB_cons _ _).2 ⟨ih hc.1, fun b hb => ?_⟩
   rcases insA_head _ _ _ hb with rfl | hb
   ·exact hlt
   ·exact hc.2 b hb
  ·split
   ·exact h
   ·rename_i hlt hne
    exact (ascB_cons _ _).2 ⟨h, fun b hb => by simp at hb; subst hb; exact ltA_tri (by simpa using hlt) hne⟩
theorem mem_insA {r : List Arc} {x y : Arc} (h : y ∈ insA r x) : y = x ∨ y ∈ r := by
 induction r with
 | nil => rw [insA_nil] at h; simp at h; exact .inl h
 | cons a s ih =>
  rw [insA_cons] at h
  split at h
  ·rcases List.mem_cons.1 h with rfl | h
   ·exact .inr (by simp)
   ·rcases ih h with h | h
    ·exact .inl h
    ·exact .inr (by simp [h])
  ·split at h
   ·exact .inr h
   ·rcases List.mem_cons.1 h with rfl | h
    ·exact .inl rfl
    ·exact .inr h

/-- A row of a valid system of n states, with at most m arcs. -/
def RowOk (n m : Nat) (row : List Arc) : Prop := ascB row = true ∧ (∀ a ∈ row, arcOk n a = true) ∧ row.length ≤ m
theorem RowOk.nil (n m : Nat) : RowOk n m [] := ⟨rfl, by simp, Nat.zero_le _⟩
theorem RowOk.ins {n m : Nat} {row : List Arc} (h : RowOk n m row) {x : Arc} (hx : arcOk n x = true) : RowOk n (m + 1) (insA row x) :=
 ⟨ascB_insA h.1 x, fun a ha => (mem_insA ha).elim (fun e => e ▸ hx) (h.2.1 a), by have := insA_len row x; have := h.2.2; omega⟩
theorem RowOk.mono {n m k : Nat} {row : List Arc} (h : RowOk n m row) (hk : m ≤ k) : RowOk n k row := ⟨h.1, h.2.1, Nat.le_trans h.2.2 hk⟩
theorem arcOk_of {n : Nat} {e t : Int} (h1 : 0 ≤ e) (h2 : e ≤ 1025) (h3 : 0 ≤ t) (h4 : t < (n : Int)) : arcOk n (e, t) = true := by
 simp only [arcOk, Bool.not_eq_true', Bool.or_eq_false_iff, decide_eq_false_iff_not]
 omega

/-! ### A system that the call has made -/
def MAt (g : Nat) (w : World) (l : Lts) : Prop := ∃ xs : List Value, RowAt w g 63 xs ∧ xs.length = l.length ∧
 ∀ (i : Nat) (row : List Arc), l[i]? = some row → ∃ (a : Option Addr) (cp : Nat), xs[i]? = some (Value.slice a row.length cp) ∧ OwnR (g + 1) w (.slice a row.length cp) row ∧ (row = [] → a = none ∧ cp = 0)

theorem MAt.lt {g : Nat} {w : World} {l : Lts} (h : MAt g w l) : g < w.heap.size := by
 obtain ⟨xs, h1, _⟩ := h
 exact h1.lt
theorem own_lt {B : Nat} {w : World} {v : Value} {row : List Arc} (h : OwnR B w v row) {k : Nat} (hk : v.ownBlock = some k) : B ≤ k := (h.lt k hk).1
theorem MAt.frm {g : Nat} {fp : List Nat} {w w' : World} {l : Lts} (h : MAt g w l) (hf : Frm fp w w') (hn : ∀ k ∈ fp, k < g) : MAt g w' l := by
 obtain ⟨xs, h1, h2, h3⟩ := h
 refine ⟨xs, h1.frm hf (fun hm => by have := hn _ hm; omega), h2, fun i row hi => ?_⟩
 obtain ⟨a, cp, h4, h5, h6⟩ := h3 i row hi
 exact ⟨a, cp, h4, ownsB_frm h5 hf (fun k hk hm => by have := hn _ hm; have := own_lt h5 hk; omega), h6⟩
theorem MAt.cell {g : Nat} {w : World} {l : Lts} (h : MAt g w l) {i : Nat} {row : List Arc} (hi : l[i]? = some row) : ∃ a cp, w.cell? ⟨g, i, none⟩ = some (.slice a row.length cp) ∧ OwnR (g + 1) w (.slice a row.length cp) row ∧ (row = [] → a = none ∧ cp = 0) := by
 obtain ⟨xs, h1, h2, h3⟩ := h
 obtain ⟨a, cp, h4, h5, h6⟩ := h3 i row hi
 exact ⟨a, cp, h1.cell h4, h5, h6⟩
theorem MAt.frozen {g : Nat} {w : World} {l : Lts} (h : MAt g w l) (i : Nat) : w.frozen? ⟨g, i, none⟩ = false := by
 obtain ⟨xs, h1, _⟩ := h
 exact h1.frozen i
theorem MAt.set {g : Nat} {w : World} {l : Lts} (h : MAt g w l) {i : Nat} {a : Option Addr} {cp : Nat} {row : List Arc} (ho : OwnR (g + 1) w (.slice a row.length cp) row) (h0 : row = [] → a = none ∧ cp = 0) : MAt g (w.setCell ⟨g, i, none⟩ (.slice a row.length cp)) (l.set i row) := by
 obtain ⟨xs, h1, h2, h3⟩ := h
 refine ⟨xs.set i (.slice a row.length cp), h1.setCell i _, by simp [h2], fun j r hj => ?_⟩
 rw [List.getElem?_set] at hj
 split at hj
 ·rename_i hij
  subst hij
  split at hj
  ·rename_i hl
   cases hj
   exact ⟨a, cp, by rw [List.getElem?_set_self (by omega)], ownsB_other ho (by simp) _, h0⟩
  ·cases hj
 ·rename_i hij
  obtain ⟨a2, cp2, h4, h5, h6⟩ := h3 j r hj
  exact ⟨a2, cp2, by rw [List.getElem?_set_ne hij]; exact h4, ownsB_other h5 (by simp) _, h6⟩
theorem MAt.lat {g : Nat} {w : World} {l : Lts} (h : MAt g w l) (hl : l.length ≤ 140737488355328) (hr : ∀ row ∈ l, row.length ≤ 140737488355328) : LAt w.heap.size w (some ⟨g, 0, none⟩) l.length l := by
 refine ⟨Nat.le_refl _, by unfold maxLen; omega, hl, fun i row hi => ?_⟩
 obtain ⟨a, cp, h1, h2, _⟩ := h.cell hi
 exact ⟨g, 0, a, cp, rfl, h.lt, by rw [Nat.zero_add]; exact h1, rowR_of_own (ownsB_mono h2 (Nat.zero_le _)) (Nat.le_refl _) (hr row (List.mem_of_getElem? hi))⟩
theorem MAt.made (w : World) (n : Nat) : MAt w.heap.size (w.alloc (.cells (List.replicate n (Value.slice none 0 0)).toArray 63)) (List.replicate n []) := by
 refine ⟨List.replicate n (.slice none 0 0), RowAt.made _ _ _ _ (by simp), by simp, fun i row hi => ?_⟩
 rw [List.getElem?_replicate] at hi
 split at hi
 ·cases hi
  exact ⟨none, 0, by rw [List.getElem?_replicate, if_pos (by assumption)]; rfl, ⟨rfl, .inl ⟨rfl, rfl⟩⟩, fun _ => ⟨rfl, rfl⟩⟩
 ·cases hi

theorem infoRow : (Tryz.prog.info? 63).map (fun i => (i.zero, i.size, i.bytes)) = some (some (.slice none 0 0), 1, 24) := by kernel_rfl

/-- What LTS and Chain give: a valid system. -/
structure Sys (n m : Nat) (l : Lts) : Prop where
 pos : 1 ≤ l.length
 few : l.length ≤ n
 row : ∀ (i : Nat) (row : List Arc), l[i]? = some row → RowOk l.length m row

end Go.Proofs.YtikpcipkkhmcfaaGreat

/- A region that draws its order and ends in a store that all others go before: the store is taken behind the region. Plain, no program. -/
namespace Go.Proofs.YtikpcipkkhmcfaaGreat
open Go

/-- The operation, doing nothing. -/
def nopOf (o : Oper) : Oper := { o with op := .move (.const (.bool false)) }

def Qt (P : Program) (ops : Array Oper) (L : Nat) (Q : Exit → Act → World → Prop) : Exit → Act → World → Prop
 | .normal, a, w => wpOp P ops Q L (fun a w => Q .normal a w) a w
 | .ret, a, w => Q .ret a w
 | .panic c, a, w => Q (.panic c) a w
 | .exit i, a, w => Q (.exit i) a w
 | .goto l, a, w => Q (.goto l) a w
 | .outgrown, a, w => Q .outgrown a w

/-- Each operation waits for earlier ones only. -/
def backB (ops : Array Oper) : Bool := (List.range ops.size).all fun j => ((ops[j]?).map (·.after.all fun e => decide (e.on < j))).getD true
theorem backB_spec {ops : Array Oper} (h : backB ops = true) {j : Nat} {o : Oper} (hj : ops[j]? = some o) : ∀ e ∈ o.after, e.on < j := by
 intro e he
 have hlt : j < ops.size := (Array.getElem?_eq_some_iff.1 hj).1
 have := List.all_eq_true.1 h j (List.mem_range.2 hlt)
 rw [hj] at this
 simp only [Option.map_some, Option.getD_some] at this
 simpa using Array.all_eq_true'.1 this e he

theorem getD_tf {listed : Array Bool} {i : Nat} (hi : i < listed.size) (h : listed.getD i true = true) : listed.getD i false = true := by
 simp [hi] at h ⊢; exact h

theorem ready_nil_all {md : Region.Mode} {ops : Array Oper} {listed : Array Bool} (hb : backB ops = true) (hz : listed.size = ops.size) (hr : Region.ready md ops listed = []) : ∀ j, j < ops.size → listed.getD j true = true := by
 intro j
 induction j using Nat.strongRecOn with
 | _ j ih =>
  intro hj
  cases hl : listed.getD j true with
  | true => rfl
  | false =>
   have : j ∈ Region.ready md ops listed := mem_ready.2 ⟨hl, ops[j], Array.getElem?_eq_getElem hj, fun e he _ => by
    have hlt := backB_spec hb (Array.getElem?_eq_getElem hj) e he
    exact getD_tf (by omega) (ih e.on hlt (by omega))⟩
   rw [hr] at this
   cases this

theorem ready_same {md : Region.Mode} {ops ops' : Array Oper} (hz : ops'.size = ops.size) (h : ∀ j : Nat, (ops'[j]?).map Oper.after = (ops[j]?).map Oper.after) (listed : Array Bool) : Region.ready md ops' listed = Region.ready md ops listed := by
 unfold Region.ready
 rw [hz]
 congr 1
 funext j
 have hj := h j
 cases h1 : ops'[j]? <;> cases h2 : ops[j]? <;> simp [h1, h2] at hj ⊢
 rw [hj]

theorem swap_last {P : Program} {md : Region.Mode} {ops ops' : Array Oper} {L : Nat} {oL : Oper} {Q : Exit → Act → World → Prop}
  (hlast : ops.size = L + 1) (hL : ops[L]? = some oL) (hd : oL.dst = none) (hg : oL.guard = none) (he : ops' = ops.setIfInBounds L (nopOf oL)) (hb : backB ops = true) (hs : Region.sinkB md ops L = true) :
  ∀ (fuel : Nat) (listed : Array Bool) (a : Act) (w : World), HeadInv md ops L listed → wpAny P md ops' (Qt P ops L Q) fuel listed a w → wpAny P md ops Q fuel listed a w := by
 have hz : ops'.size = ops.size := by rw [he]; simp
 have hne : ∀ j, j ≠ L → ops'[j]? = ops[j]? := fun j hj => by rw [he, Array.getElem?_setIfInBounds_ne (Ne.symm hj)]
 have hL' : ops'[L]? = some (nopOf oL) := by rw [he, Array.getElem?_setIfInBounds_self_of_lt (by omega)]
 have hrd : ∀ listed, Region.ready md ops' listed = Region.ready md ops listed := ready_same hz (fun j => by
  by_cases hj : j = L
  ·subst hj; rw [hL', hL]; rfl
  ·rw [hne j hj])
 have hy : ∀ tmps, yielded ops' tmps = yielded ops tmps := by
  intro tmps
  funext j
  unfold yielded
  by_cases hj : j = L
  ·subst hj; rw [hL', hL]; simp [nopOf]
  ·rw [hne j hj]
 have hc : Region.chainB md ops L = true := by
  unfold Region.chainB
  refine List.all_eq_true.2 fun t ht => ?_
  have := List.mem_range.1 ht
  simp only [Bool.or_eq_true, decide_eq_true_eq]
  left; omega
 intro fuel
 induction fuel with
 | zero =>
  intro listed a w inv h
  have h1 := h.1
  rw [hrd] at h1
  have h2 := ready_nil_all hb inv.size h1 L (by omega)
  rw [inv.tail L (Nat.le_refl _) (by omega)] at h2
  cases h2
 | succ fuel ih =>
  intro listed a w inv h
  refine ⟨fun h1 => ?_, fun i hi => ?_⟩
  ·have h2 := ready_nil_all hb inv.size h1 L (by omega)
   rw [inv.tail L (Nat.le_refl _) (by omega)] at h2
   cases h2
  ·have hi' := hi
   rw [← hrd] at hi'
   have H := h.2 i hi'
   by_cases hiL : i = L
   ·subst hiL
    have hall : ∀ j, j < i → listed.getD j true = true := fun j hj => by
     cases hl : listed.getD j true with
     | true => rfl
     | false => exact absurd hi (tail_waits hs hc (by omega) inv _ j rfl hj hl i (Nat.le_refl _))
    have hr0 : Region.ready md ops (listed.setIfInBounds i true) = [] := by
     refine List.eq_nil_iff_forall_not_mem.2 fun j hj => ?_
     obtain ⟨hjl, o, hjo, _⟩ := mem_ready.1 hj
     have hjs : j < ops.size := (Array.getElem?_eq_some_iff.1 hjo).1
     by_cases hji : j = i
     ·subst hji
      simp [inv.size, hlast] at hjl
     ·rw [getD_set_ne true (Ne.symm hji), hall j (by omega)] at hjl
      cases hjl
    have H2 : wpAny P md ops' (Qt P ops i Q) fuel (listed.setIfInBounds i true) a w := by
     unfold wpOp at H
     rw [hL'] at H
     have hw : Region.wanted (nopOf oL) (yielded ops' a.tmps) = true := by simp [Region.wanted, nopOf, hg]
     simp only [hw, if_true] at H
     rcases H with H | ⟨⟨H, _⟩, _⟩
     ·simpa [Oper.wp, Oper.upon, execOp, nopOf, Sem.run, Act.put, hd] using H
     ·exact absurd (show noRoomEvent ∈ (#[] : Array Event) from H) (by simp)
    have H3 : wpOp P ops Q i (fun a w => Q .normal a w) a w := by
     cases fuel with
     | zero => exact H2.2
     | succ f => exact H2.1 (by rw [hrd]; exact hr0)
    refine wpOp_mono (fun a' w' h' => ?_) H3
    cases fuel with
    | zero => exact ⟨hr0, h'⟩
    | succ f => exact ⟨fun _ => h', fun j hj => by rw [hr0] at hj; cases hj⟩
   ·have H2 : wpOp P ops Q i (wpAny P md ops' (Qt P ops L Q) fuel (listed.setIfInBounds i true)) a w := by
     unfold wpOp at H ⊢
     rw [hne i hiL, hy] at H
     exact H
    have hin : i < L := by
     obtain ⟨_, o, hio, _⟩ := mem_ready.1 hi
     have : i < ops.size := (Array.getElem?_eq_some_iff.1 hio).1
     omega
    exact wpOp_mono (fun a' w' h' => ih _ a' w' (inv.set hi hin) h') H2

theorem Qt.last {P : Program} {ops : Array Oper} {L : Nat} {o : Oper} {Q : Exit → Act → World → Prop} {a : Act} {w : World} (hL : ops[L]? = some o) (hg : o.guard = none) (h : o.wp P a w (fun a w => Q .normal a w) Q) : Qt P ops L Q .normal a w := by
 show wpOp P ops Q L (fun a w => Q .normal a w) a w
 unfold wpOp
 rw [hL]
 have hw : Region.wanted o (yielded ops a.tmps) = true := by simp [Region.wanted, hg]
 simp only [hw, if_true]
 exact Or.inl h

/-- The beginning: the walk goes over the region with the last store struck; the store comes behind it ('Qt'). -/
theorem wp_region_last {P : Program} {id : Nat} {ops : Array Oper} (ops' : Array Oper) {L : Nat} {oL : Oper} {Q : Exit → Act → World → Prop} {a : Act} {w : World} (S : World → Prop) (hm : P.follows .mixedOrders = true)
  (hlast : ops.size = L + 1) (hL : ops[L]? = some oL) (hd : oL.dst = none) (hg : oL.guard = none) (he : ops' = ops.setIfInBounds L (nopOf oL)) (hb : backB ops = true) (hs : Region.sinkB .any ops L = true)
  (hS : S w.drew) (h : S w.drew → wpAnyH P .any ops' (Qt P ops L Q) S ops'.size (Array.replicate ops'.size false) a w.drew) : (Code.region id ops true).wp P Q a w := by
 refine wp_region_any hm ?_
 have h1 := wpAny_of_held _ _ _ _ (h hS)
 rw [show ops'.size = ops.size by rw [he]; simp] at h1
 exact swap_last hlast hL hd hg he hb hs _ _ _ _ ⟨by simp, fun j oj _ hl => (by rw [getD_replicate_false] at hl; cases hl), fun t _ ht => getD_in (by simpa using ht) (getD_replicate_false _ _)⟩ h1

end Go.Proofs.YtikpcipkkhmcfaaGreat
