/- Texts WT, WU, WV, FB, FL. -/
import Derived.Test.YtikpcipkkhmcfaaGreatQ42
import Derived.Test.YtikpcipkkhmcfaaGreatQ43
import Derived.Test.YtikpcipkkhmcfaaGreatQ11
import Derived.Test.YtikpcipkkhmcfaaGreatQ22
import Derived.Test.YtikpcipkkhmcfaaGreatQ28
/- Sizes of the entries of Of. Plain. -/
namespace Go.Proofs.YtikpcipkkhmcfaaGreat.Beh
open Go.Proofs.YtikpcipkkhmcfaaGreat Go.Proofs.YtikpcipkkhmcfaaGreat.Ind

theorem rchN_ok {l : Lts} (hv : VLts l) {fr : List Nat} (hf : ∀ v ∈ fr, v < l.length) : (rchN l fr).Pairwise (· < ·) ∧ ∀ v ∈ rchN l fr, v < l.length := by
 unfold rchN
 split
 ·rename_i h
  have hr := Classical.choose_spec h
  exact ⟨hr.asc, reach_lt hv hr hf⟩
 ·exact ⟨.nil, by simp⟩
theorem aftN_ok {l : Lts} (hv : VLts l) {s : List Nat} (e : Int) (hf : ∀ v ∈ s, v < l.length) : (aftN l s e).Pairwise (· < ·) ∧ ∀ v ∈ aftN l s e, v < l.length := by
 unfold aftN
 split
 ·rename_i h
  have hm := Classical.choose_spec h
  exact rchN_ok hv (fun v hv9 => by
   obtain ⟨q, hq, h1⟩ := (hm.mem v).1 hv9
   exact aim_edge hv q v (hf q hq) h1)
 ·exact ⟨.nil, by simp⟩
theorem insG_len1 {α : Type} [DecidableEq α] (lt : α → α → Bool) : ∀ (l : List α) (x : α), (insG lt l x).length ≤ l.length + 1
 | [], x => by simp [insG]
 | a :: r, x => by
  have ih := insG_len1 lt r x
  unfold insG
  split
  ·simp only [List.length_cons]; omega
  ·split
   ·simp only [List.length_cons]; omega
   ·simp only [List.length_cons]; omega
theorem setG_len1 {α : Type} [DecidableEq α] (lt : α → α → Bool) : ∀ (l acc : List α), (l.foldl (insG lt) acc).length ≤ acc.length + l.length
 | [], acc => by simp
 | x :: r, acc => by
  have h1 := setG_len1 lt r (insG lt acc x)
  have h2 := insG_len1 lt acc x
  rw [List.foldl_cons, List.length_cons]
  omega
theorem minL_len (l : List (List Int)) : (minL l).length ≤ l.length := by
 unfold minL
 split
 ·unfold minS
  refine Nat.le_trans (List.length_filter_le ..) ?_
  have h1 := setG_len1 ltL l []
  unfold setG
  simpa using h1
 ·simp
/-- What holds of an entry with its set. -/
def EntP (l : Lts) (p : List Nat × En) : Prop := p.1.Pairwise (· < ·) ∧ (∀ v ∈ p.1, v < l.length) ∧ p.2.2.1 = minL (accN l p.1)
theorem of_entP {l : Lts} (hv : VLts l) {n : Nat} {st : St} (h : ofL l n = some st) : ∀ p ∈ st, EntP l p := by
 refine ofB_inv (k := wkL l) ?_ ?_ h
 ·have h1 := rchN_ok hv (fr := [0]) (fun v hv9 => by have := hv.pos; simp at hv9; omega)
  exact ⟨h1.1, h1.2, rfl⟩
 ·intro p e hp _
  have h1 := aftN_ok hv e hp.2.1
  exact ⟨h1.1, h1.2, rfl⟩
theorem of_fits {l : Lts} (hv : VLts l) (hl : l.length ≤ 1000) {n : Nat} (hn : n ≤ 24) {st : St} (h : ofL l n = some st) : FitsN 1100 (st.map (·.2)) ∧ st.length ≤ 16384 ∧ 1 ≤ st.length := by
 obtain ⟨_, h2, h3, h4⟩ := of_vb (wkL_ok hv) hn h
 refine ⟨fun x hx => ?_, h2, h3⟩
 obtain ⟨p, hp, rfl⟩ := List.mem_map.1 hx
 obtain ⟨k1, k2, k3⟩ := of_entP hv h p hp
 have k4 := h4 p hp
 have k5 := asc_le k1 k2
 have k6 : (accN l p.1).length ≤ p.1.length := List.length_filterMap_le ..
 have k7 := minL_len (accN l p.1)
 refine ⟨by omega, by rw [k3]; omega, fun y hy => ?_⟩
 rw [k3] at hy
 obtain ⟨v, rfl⟩ := accN_of (mem_minL hy)
 have := accF_len (row_ok hv v)
 omega
end Go.Proofs.YtikpcipkkhmcfaaGreat.Beh

/- A system that the generator has made stays while the tape turns. -/
namespace Go.Proofs.YtikpcipkkhmcfaaGreat.Beh
open Go.RowKit Go.Lib Go.Proofs.YtikpcipkkhmcfaaGreat Go.Proofs.YtikpcipkkhmcfaaGreat.Ind

end Go.Proofs.YtikpcipkkhmcfaaGreat.Beh

/- How many entries Of has, for a small system. Plain. -/
namespace Go.Proofs.YtikpcipkkhmcfaaGreat.Beh
open Go.Proofs.YtikpcipkkhmcfaaGreat Go.Proofs.YtikpcipkkhmcfaaGreat.Ind

theorem evN_len {l : Lts} {M : Nat} (hr : ∀ row ∈ l, row.length ≤ M) (s : List Nat) : (evN l s).length ≤ s.length * M := by
 have h1 := setG_len1 (fun a b : Int => decide (a < b)) (visL l s) []
 have h2 : ∀ s : List Nat, (visL l s).length ≤ s.length * M := fun s => by
  induction s with
  | nil => simp [visL]
  | cons v r ih =>
   have h3 : (visR (l.getD v [])).length ≤ M := by
    refine Nat.le_trans ?_ (?_ : (l.getD v []).length ≤ M)
    ·unfold visR
     rw [List.length_map]
     exact List.length_filter_le ..
    ·rw [List.getD_eq_getElem?_getD]
     cases h : l[v]? with
     | none => simp
     | some row => exact hr row (List.mem_of_getElem? h)
   unfold visL at ih ⊢
   rw [List.flatMap_cons, List.length_append, List.length_cons, Nat.succ_mul]
   omega
 have h4 := h2 s
 unfold evN setG
 simp at h1
 omega
/-- The number of entries whose trace has length d. -/
def cnt (d : Nat) (st : St) : Nat := st.countP fun p => decide (p.2.1.length = d)
theorem cnt_snoc (d : Nat) (st : St) (p : List Nat × En) : cnt d (st ++ [p]) = cnt d st + if p.2.1.length = d then 1 else 0 := by
 unfold cnt
 rw [List.countP_append]
 by_cases h : p.2.1.length = d <;> simp [h]
theorem newE_len (k : Wk) (set : List Nat) (t : List Int) (e : Int) : (newE k set t e).2.1.length = t.length + 1 := by
 show (k.ent (t ++ [e]) (k.aft set e)).1.length = _
 rw [k.tr]
 simp
theorem addL_some {k : Wk} {set : List Nat} {t : List Int} : ∀ (l : List Int) (st : St), st.length + l.length ≤ 16384 → ∃ r : St, addL k set t l st = some (st ++ r) ∧ r.length = l.length ∧ ∀ p ∈ r, p.2.1.length = t.length + 1
 | [], st, _ => ⟨[], by simp [addL], rfl, by simp⟩
 | e :: q, st, h => by
  rw [List.length_cons] at h
  obtain ⟨r, h1, h2, h3⟩ := addL_some q (st ++ [newE k set t e]) (by rw [List.length_append, List.length_singleton]; omega)
  refine ⟨newE k set t e :: r, ?_, by rw [List.length_cons, h2, List.length_cons], fun p hp => ?_⟩
  ·rw [addL, if_neg (by omega), h1, List.append_assoc]
   rfl
  ·rcases List.mem_cons.1 hp with rfl | hp
   ·exact newE_len ..
   ·exact h3 p hp
theorem cnt_app (d : Nat) (a b : St) : cnt d (a ++ b) = cnt d a + cnt d b := by
 unfold cnt
 exact List.countP_append ..
theorem cnt_all {d : Nat} : ∀ {r : St}, (∀ p ∈ r, p.2.1.length = d) → ∀ c, cnt c r = if c = d then r.length else 0
 | [], _, c => by simp [cnt]
 | p :: r, h, c => by
  have ih := cnt_all (r := r) (fun q hq => h q (List.mem_cons_of_mem _ hq)) c
  have h1 := h p (List.mem_cons_self ..)
  have h2 : cnt c (p :: r) = cnt c [p] + cnt c r := cnt_app c [p] r
  have h3 : cnt c [p] = if c = d then 1 else 0 := by
   have h4 := cnt_snoc c [] p
   rw [List.nil_append, h1] at h4
   rw [h4]
   by_cases hc : c = d
   ·subst hc; simp [cnt]
   ·rw [if_neg hc, if_neg (fun e => hc e.symm)]; simp [cnt]
  rw [h2, h3, ih, List.length_cons]
  split <;> omega
structure Cn (i : Nat) (st : St) : Prop where
 c0 : cnt 0 st ≤ 1
 cs : ∀ d, cnt (d + 1) st ≤ 24 * cnt d (st.take i)
theorem Cn.next {i : Nat} {st : St} (h : Cn i st) : Cn (i + 1) st := ⟨h.c0, fun d => by
 have h1 := h.cs d
 have h2 : cnt d (st.take i) ≤ cnt d (st.take (i + 1)) := by
  cases hp : st[i]? with
  | none =>
   rw [List.getElem?_eq_none_iff] at hp
   rw [List.take_of_length_le hp, List.take_of_length_le (by omega)]
   exact Nat.le_refl _
  | some p =>
   rw [Ind.take_snoc hp, cnt_app]
   omega
 omega⟩
theorem cnt_one (c : Nat) (p : List Nat × En) : cnt c [p] = if c = p.2.1.length then 1 else 0 := by
 have h := cnt_all (d := p.2.1.length) (r := [p]) (fun q hq => by rw [List.mem_singleton.1 hq]) c
 rw [h]
 rfl
theorem Cn.step {i : Nat} {st r : St} {p : List Nat × En} (h : Cn i st) (hp : st[i]? = some p) (hr : r.length ≤ 24) (hl : ∀ q ∈ r, q.2.1.length = p.2.1.length + 1) : Cn (i + 1) (st ++ r) := by
 have hi : i < st.length := (List.getElem?_eq_some_iff.1 hp).1
 refine ⟨?_, fun d => ?_⟩
 ·rw [cnt_app, cnt_all hl, if_neg (by omega)]
  exact h.c0
 ·have h1 := h.cs d
  rw [cnt_app, cnt_all hl, List.take_append_of_le_length (by omega), Ind.take_snoc hp, cnt_app, cnt_one]
  by_cases hd : d = p.2.1.length
  ·rw [if_pos (by omega), if_pos hd]
   omega
  ·rw [if_neg (by omega), if_neg hd]
   omega
theorem cnt_total : ∀ {st : St}, (∀ p ∈ st, p.2.1.length ≤ 3) → st.length = cnt 0 st + cnt 1 st + cnt 2 st + cnt 3 st
 | [], _ => by simp [cnt]
 | p :: r, h => by
  have ih := cnt_total (st := r) (fun q hq => h q (List.mem_cons_of_mem _ hq))
  have h1 := h p (List.mem_cons_self ..)
  have h2 : ∀ c, cnt c (p :: r) = (if c = p.2.1.length then 1 else 0) + cnt c r := fun c => by
   have h3 := cnt_app c [p] r
   rw [cnt_one] at h3
   exact h3
  rw [h2, h2, h2, h2, List.length_cons, ih]
  generalize p.2.1.length = m at h1
  rcases (by omega : m = 0 ∨ m = 1 ∨ m = 2 ∨ m = 3) with rfl | rfl | rfl | rfl <;> simp <;> omega
theorem Cn.few {i : Nat} {st : St} (h : Cn i st) (hl : ∀ p ∈ st, p.2.1.length ≤ 3) : st.length ≤ 14425 := by
 have h0 := h.c0
 have ht : ∀ d, cnt d (st.take i) ≤ cnt d st := fun d => by
  have h9 := cnt_app d (st.take i) (st.drop i)
  rw [List.take_append_drop] at h9
  omega
 have h1 := h.cs 0
 have h2 := h.cs 1
 have h3 := h.cs 2
 have t0 := ht 0
 have t1 := ht 1
 have t2 := ht 2
 have h4 := cnt_total hl
 simp only [Nat.zero_add, Nat.reduceAdd] at h1 h2 h3
 omega
theorem ofGo_some {k : Wk} {n : Nat} (h3n : n ≤ 3) {P : List Nat × En → Prop} (hP : ∀ p e, P p → e ∈ k.ev p.1 → P (newE k p.1 p.2.1 e)) (hE : ∀ p, P p → (k.ev p.1).length ≤ 24) : ∀ (f i : Nat) (st : St), Cn i st → (∀ p ∈ st, p.2.1.length ≤ n) → (∀ p ∈ st, P p) → ∃ st', ofGo k n f i st = some st'
 | 0, i, st, _, _, _ => ⟨st, by simp [ofGo]⟩
 | f + 1, i, st, hc, hl, hs => by
  cases hp : st[i]? with
  | none => exact ⟨st, of_end (by rw [List.getElem?_eq_none_iff] at hp; exact hp)⟩
  | some p =>
   have hm := List.mem_of_getElem? hp
   by_cases hn : p.2.1.length = n
   ·rw [of_same hp hn]
    exact ofGo_some h3n hP hE f (i + 1) st hc.next hl hs
   ·have h3 := hl p hm
    have h16 := hE p (hs p hm)
    have hf := hc.few (fun p hp => by have := hl p hp; omega)
    obtain ⟨r, h1, h2, h4⟩ := addL_some (k := k) (set := p.1) (t := p.2.1) (k.ev p.1) st (by omega)
    rw [of_step hp hn, h1]
    refine ofGo_some h3n hP hE f (i + 1) (st ++ r) (hc.step hp (by omega) h4) (fun q hq => ?_) (addL_inv _ _ _ (fun e h9 => hP p e (hs p hm) h9) hs h1)
    rcases List.mem_append.1 hq with h9 | h9
    ·exact hl q h9
    ·have := h4 q h9
     omega
theorem of_smallN {l : Lts} {M n : Nat} (hv : VLts l) (h4 : l.length * M ≤ 24) (hr : ∀ row ∈ l, row.length ≤ M) (hn : n ≤ 3) : ∃ st, ofL l n = some st := by
 have h1 := rchN_ok hv (fr := [0]) (fun v hv9 => by have := hv.pos; simp at hv9; omega)
 refine ofGo_some hn (k := wkL l) (P := EntP l) ?_ ?_ _ _ _ ⟨?_, fun d => ?_⟩ ?_ ?_
 ·intro p e hp _
  have h1 := aftN_ok hv e hp.2.1
  exact ⟨h1.1, h1.2, rfl⟩
 ·intro p hp
  have h5 := asc_le hp.1 hp.2.1
  have h6 := evN_len hr p.1
  have h7 : p.1.length * M ≤ l.length * M := Nat.mul_le_mul_right M h5
  have h8 : (evN l p.1).length ≤ 24 := by omega
  exact h8
 ·rw [cnt_one]
  split <;> omega
 ·rw [cnt_one, if_neg (by simp [wkL])]
  omega
 ·intro p hp
  rw [List.mem_singleton.1 hp]
  simp [wkL]
 ·intro p hp
  rw [List.mem_singleton.1 hp]
  exact ⟨h1.1, h1.2, rfl⟩
end Go.Proofs.YtikpcipkkhmcfaaGreat.Beh

/- What a law of chapter 32 knows of a system that the generator has made. -/
namespace Go.Proofs.YtikpcipkkhmcfaaGreat.Beh
open Go.RowKit Go.Lib Go.Proofs.YtikpcipkkhmcfaaGreat Go.Proofs.YtikpcipkkhmcfaaGreat.Ind

theorem looseGo_of (n m : Nat) : ∀ (l : Lts) (c : Nat), (∀ row ∈ l, row.all (arcOk n) = true ∧ row.length ≤ m) → c + l.length * m ≤ 262144 → looseGo n c l = true
 | [], _, _, _ => rfl
 | row :: r, c, h, hc => by
  have h1 := h row (List.mem_cons_self ..)
  rw [List.length_cons, Nat.add_mul] at hc
  simp only [looseGo, Bool.and_eq_true, decide_eq_true_eq]
  exact ⟨by omega, h1.1, looseGo_of n m r _ (fun q hq => h q (List.mem_cons_of_mem _ hq)) (by omega)⟩
theorem sys_rows {n m : Nat} {l : Lts} (h : Sys n m l) : ∀ row ∈ l, Go.Proofs.YtikpcipkkhmcfaaGreat.RowOk l.length m row := fun row hr => by
 obtain ⟨i, hi⟩ := List.getElem?_of_mem hr
 exact h.row i row hi
theorem sys_valid {n m : Nat} {l : Lts} (h : Sys n m l) (hn : n ≤ 100) (hm : m ≤ 100) : validB l = true := by
 have hf := h.few
 have hp := h.pos
 have hrow := sys_rows h
 have hmul : l.length * m ≤ 100 * 100 := Nat.mul_le_mul (by omega) hm
 simp only [validB, looseB, Bool.and_eq_true, decide_eq_true_eq]
 exact ⟨⟨⟨hp, by omega⟩, looseGo_of _ m l 0 (fun row hr => ⟨List.all_eq_true.2 (hrow row hr).2.1, (hrow row hr).2.2⟩) (by omega)⟩, List.all_eq_true.2 (fun row hr => (hrow row hr).1)⟩
/-- The behavior of a small system up to length 3 at most. -/
theorem of_resN {l : Lts} {N M n : Nat} (h : Sys N M l) (hN : N ≤ 100) (hM : M ≤ 100) (hNM : N * M ≤ 24) (hn : n ≤ 3) : ∃ b, ofRes l (n : Int) = (0, b) ∧ FitsN 1100 b ∧ b.length ≤ 16384 ∧ 1 ≤ b.length ∧ VB b ∧ ∃ st, ofL l n = some st ∧ b = st.map (·.2) := by
 have hv := sys_valid h hN hM
 have hV := vlts_of hv
 have hf := h.few
 obtain ⟨st, hst⟩ := of_smallN (M := M) (n := n) hV (Nat.le_trans (Nat.mul_le_mul_right M hf) hNM) (fun row hr => (sys_rows h row hr).2.2) hn
 obtain ⟨h1, h2, h3⟩ := of_fits hV (by omega) (by omega) hst
 refine ⟨st.map (·.2), ?_, h1, by rw [List.length_map]; exact h2, by rw [List.length_map]; exact h3, (of_vb (wkL_ok hV) (by omega) hst).1, st, hst, rfl⟩
 rw [ofRes, if_pos ⟨hv, by omega, by omega⟩]
 show (match ofL l n with | none => _ | some st => _) = _
 rw [hst]
theorem of_res3 {l : Lts} (h : Sys 4 4 l) : ∃ b, ofRes l 3 = (0, b) ∧ FitsN 1100 b ∧ b.length ≤ 16384 ∧ 1 ≤ b.length ∧ VB b := by
 obtain ⟨b, h1, h2, h3, h4, h5, _⟩ := of_resN (n := 3) h (by decide) (by decide) (by decide) (by decide)
 exact ⟨b, h1, h2, h3, h4, h5⟩
end Go.Proofs.YtikpcipkkhmcfaaGreat.Beh

/- The reference's Insert at an empty row that is not nil. The generator's Model. -/
namespace Go.Proofs.YtikpcipkkhmcfaaGreat.Beh
open Go.RowKit Go.Lib Go.Proofs.YtikpcipkkhmcfaaGreat Go.Proofs.YtikpcipkkhmcfaaGreat.Ind

/-! ### A system of the call's own: its outer row at go -/
structure SysR (B : Nat) (w : World) (go cp : Nat) (l : Lts) (xs : List Value) : Prop where
 out : w.ownsRow B 63 1 (.slice (some ⟨go, 0, none⟩) l.length cp) l.length xs
 row : ∀ (i : Nat) (row : List Arc), l[i]? = some row → ∃ ra rc, xs[i]? = some (.slice ra row.length rc) ∧ OwnR B w (.slice ra row.length rc) row
 sep : ∀ (i : Nat) (u : Value), xs[i]? = some u → u.ownBlock ≠ some go
theorem SysR.of {B : Nat} {w : World} {go cp : Nat} {l : Lts} {xs : List Value} (h : SysO B w (some ⟨go, 0, none⟩) cp l xs) : SysR B w go cp l xs :=
 ⟨h.out, fun i row hi => by
  obtain ⟨g, rc, h1, h2⟩ := h.row i row hi
  exact ⟨_, rc, h1, h2⟩, fun i u hu e => h.sep i u hu go e rfl⟩
theorem SysR.frm {B : Nat} {fp : List Nat} {w w' : World} {go cp : Nat} {l : Lts} {xs : List Value} (h : SysR B w go cp l xs) (hf : Frm fp w w') (hn : ∀ q ∈ fp, q < B) : SysR B w' go cp l xs :=
 ⟨ownsB_frm h.out hf (fun k hk hm => by have := (h.out.lt k hk).1; have := hn k hm; omega), fun i row hi => by
  obtain ⟨ra, rc, h1, h2⟩ := h.row i row hi
  exact ⟨ra, rc, h1, ownsB_frm h2 hf (fun k hk hm => by have := (h2.lt k hk).1; have := hn k hm; omega)⟩, h.sep⟩
theorem SysR.lat {B : Nat} {w : World} {go cp : Nat} {l : Lts} {xs : List Value} (h : SysR B w go cp l xs) (hl : l.length ≤ 140737488355328) (hr : ∀ row ∈ l, row.length ≤ 140737488355328) : LAt w.heap.size w (some ⟨go, 0, none⟩) cp l := by
 have hrd := rd_of_owns h.out (Nat.le_refl _)
 refine ⟨hrd.le, hrd.max, hl, fun i row hi => ?_⟩
 obtain ⟨ra, rc, h1, h2⟩ := h.row i row hi
 obtain ⟨b, o, ha, hb, hc⟩ := hrd.cell i _ h1
 exact ⟨b, o, ra, rc, ha, hb, hc, rowR_of_own (ownsB_mono h2 (Nat.zero_le _)) (Nat.le_refl _) (hr row (List.mem_of_getElem? hi))⟩
theorem SysR.put {B : Nat} {w w' : World} {go cp : Nat} {l : Lts} {xs : List Value} {s : Nat} {row' : List Arc} {ra : Option Addr} {rc : Nat} (hs : SysR B w go cp l xs) (hsl : s < l.length)
  (hown : OwnR B w' (.slice ra row'.length rc) row') (hsep : (Value.slice ra row'.length rc).ownBlock ≠ some go) (hf : Frm [] w w') :
  SysR B (w'.setCell ⟨go, s, none⟩ (.slice ra row'.length rc)) go cp (l.set s row') (xs.set s (.slice ra row'.length rc)) := by
 have hxl : xs.length = l.length := by have := hs.out.1; omega
 have hst : ∀ {v : Value} {r : List Arc}, OwnR B w' v r → v.ownBlock ≠ some go → OwnR B (w'.setCell ⟨go, s, none⟩ (.slice ra row'.length rc)) v r := fun ho hn =>
  ownsB_frm ho ((Frm.refl [go] _).setCell (p := ⟨go, s, none⟩) (.inl (by simp)) _) (fun k hk hm => hn (by rw [hk, List.mem_singleton.1 hm]))
 have hget : ∀ (i : Nat) (u : Value), (xs.set s (.slice ra row'.length rc))[i]? = some u → (i ≠ s ∧ xs[i]? = some u) ∨ (i = s ∧ u = .slice ra row'.length rc) := fun i u hu => by
  rw [List.getElem?_set] at hu
  split at hu
  ·rename_i h1
   subst h1
   split at hu
   ·cases hu; exact .inr ⟨rfl, rfl⟩
   ·cases hu
  ·rename_i h1
   exact .inl ⟨fun e => h1 e.symm, hu⟩
 refine ⟨?_, fun i r hr => ?_, fun i u hu => ?_⟩
 ·rw [List.length_set]
  exact ownsB_setCellG (ownsB_frm hs.out hf (by simp)) rfl s _
 ·rw [List.getElem?_set] at hr
  split at hr
  ·rename_i h1
   subst h1
   first | cases hr | (rw [if_pos hsl] at hr; cases hr)
   exact ⟨ra, rc, by rw [List.getElem?_set_self (by omega)], hst hown hsep⟩
  ·rename_i h1
   obtain ⟨ra2, rc2, h2, h3⟩ := hs.row i r hr
   exact ⟨ra2, rc2, by rw [List.getElem?_set_ne h1]; exact h2, hst (ownsB_frm h3 hf (by simp)) (hs.sep i _ h2)⟩
 ·rcases hget i u hu with ⟨_, h2⟩ | ⟨_, rfl⟩
  ·exact hs.sep i u h2
  ·exact hsep
/-! ### An arc struck -/
theorem flatA_app (a b : List Arc) : flatA (a ++ b) = flatA a ++ flatA b := by simp [flatA]
theorem flatA_take (r : List Arc) (k : Nat) : (flatA r).take (k * 2) = flatA (r.take k) := by
 have h := congrArg flatA (List.take_append_drop k r)
 rw [flatA_app] at h
 by_cases hk : k ≤ r.length
 ·rw [← h, List.take_left' (by rw [flatA_len, List.length_take, Nat.min_eq_left hk])]
 ·rw [List.take_of_length_le (by rw [flatA_len]; omega), List.take_of_length_le (by omega)]
theorem flatA_drop (r : List Arc) (k : Nat) : (flatA r).drop (k * 2) = flatA (r.drop k) := by
 have h := congrArg flatA (List.take_append_drop k r)
 rw [flatA_app] at h
 by_cases hk : k ≤ r.length
 ·rw [← h, List.drop_left' (by rw [flatA_len, List.length_take, Nat.min_eq_left hk])]
 ·rw [List.drop_eq_nil_of_le (by rw [flatA_len]; omega), List.drop_eq_nil_of_le (by omega)]; rfl
theorem ltA_trans {a b c : Arc} (h1 : ltA a b = true) (h2 : ltA b c = true) : ltA a c = true := by
 simp only [ltA, Bool.or_eq_true, decide_eq_true_eq, Bool.and_eq_true] at h1 h2 ⊢
 omega
theorem ascB_pair : ∀ {l : List Arc}, Go.Proofs.YtikpcipkkhmcfaaGreat.ascB l = true ↔ l.Pairwise fun a b => ltA a b = true
 | [] => by simp [Go.Proofs.YtikpcipkkhmcfaaGreat.ascB]
 | a :: r => by
  rw [Go.Proofs.YtikpcipkkhmcfaaGreat.ascB_cons, ascB_pair, List.pairwise_cons]
  constructor
  ·rintro ⟨h1, h2⟩
   refine ⟨fun b hb => ?_, h1⟩
   cases r with
   | nil => cases hb
   | cons c q =>
    have h3 := h2 c rfl
    rcases List.mem_cons.1 hb with rfl | hb
    ·exact h3
    ·exact ltA_trans h3 ((List.pairwise_cons.1 h1).1 b hb)
  ·rintro ⟨h1, h2⟩
   exact ⟨h2, fun b hb => h1 b (by cases r with | nil => cases hb | cons c q => simp at hb; simp [hb])⟩
theorem RowOk.cut {n m : Nat} {row : List Arc} (h : Go.Proofs.YtikpcipkkhmcfaaGreat.RowOk n m row) (k : Nat) : Go.Proofs.YtikpcipkkhmcfaaGreat.RowOk n m (row.take k ++ row.drop (k + 1)) := by
 have hs : (row.take k ++ row.drop (k + 1)).Sublist row := by
  rw [← List.eraseIdx_eq_take_drop_succ]
  exact List.eraseIdx_sublist ..
 exact ⟨ascB_pair.2 ((ascB_pair.1 h.1).sublist hs), fun a ha => h.2.1 a (hs.subset ha), Nat.le_trans hs.length_le h.2.2⟩
theorem Sys.put {n m : Nat} {l : Lts} (h : Sys n m l) {s : Nat} {row : List Arc} (hr : Go.Proofs.YtikpcipkkhmcfaaGreat.RowOk l.length m row) : Sys n m (l.set s row) := by
 refine ⟨by rw [List.length_set]; exact h.pos, by rw [List.length_set]; exact h.few, fun i r hi => ?_⟩
 rw [List.length_set]
 rw [List.getElem?_set] at hi
 split at hi
 ·split at hi
  ·cases hi; exact hr
  ·cases hi
 ·exact h.row i r hi
theorem Sys.up {n m k : Nat} {l : Lts} (h : Sys n m l) (hk : m ≤ k) : Sys n k l := ⟨h.pos, h.few, fun i r hi => (h.row i r hi).mono hk⟩
theorem model_any (B tb N : Nat) (w : World) (h : TapeOk B w tb N) (hB : B ≤ tb) (hN : N ≤ 1000000000) :
  Calls Tryz.prog 27 #[.pointer (some ⟨tb, 0, none⟩)] w fun e w' => (∃ v : Int, e = .returned (.int .i64 v) ∧ 1 ≤ v ∧ v ≤ 3) ∧ TapeOk B w' tb (N + 1) ∧ Frm [tb] w w' := by
 have hn := next_any B tb N 3 _ h hB hN (by decide)
 go_enter Tryz.func27, Tryz.ntmps27
 go_wp2_with fail
 refine hn.mono ?_
 rintro e2 w2 ⟨⟨v, rfl, hv, -⟩, hT2, hf2⟩
 have hv1 := hv (by omega)
 obtain ⟨h1, h2⟩ := hv1
 go_wp2_with fail
 go_ret
 exact ⟨⟨1 + v, by first | rfl | (congr 2; try rw [IntWalk.i64_in _ (by omega)]), by omega, by omega⟩, hT2, hf2⟩
end Go.Proofs.YtikpcipkkhmcfaaGreat.Beh
