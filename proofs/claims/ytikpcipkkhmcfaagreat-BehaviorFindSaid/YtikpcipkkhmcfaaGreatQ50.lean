/- Texts WT, WU, WV, FB, WH, FC. -/
import Derived.Test.YtikpcipkkhmcfaaGreatQ48
import Derived.Test.YtikpcipkkhmcfaaGreatQ49
import Derived.Test.YtikpcipkkhmcfaaGreatQ08
import Derived.Test.YtikpcipkkhmcfaaGreatQ40
/- Sizes of the entries of Of. Plain. -/
namespace Go.Proofs.YtikpcipkkhmcfaaGreat.Beh
open Go.Proofs.YtikpcipkkhmcfaaGreat Go.Proofs.YtikpcipkkhmcfaaGreat.Ind

theorem rchN_ok {l : Lts} (hv : VLts l) {fr : List Nat} (hf : ∀ v ∈ fr, v < l.length) : (rchN l fr).Pairwise (· < ·) ∧ ∀ v ∈ rchN l fr, v < l.length := by
  unfold rchN
  split
  · rename_i h
    have hr := Classical.choose_spec h
    exact ⟨hr.asc, reach_lt hv hr hf⟩
  · exact ⟨.nil, by simp⟩
theorem aftN_ok {l : Lts} (hv : VLts l) {s : List Nat} (e : Int) (hf : ∀ v ∈ s, v < l.length) : (aftN l s e).Pairwise (· < ·) ∧ ∀ v ∈ aftN l s e, v < l.length := by
  unfold aftN
  split
  · rename_i h
    have hm := Classical.choose_spec h
    exact rchN_ok hv (fun v hv9 => by
      obtain ⟨q, hq, h1⟩ := (hm.mem v).1 hv9
      exact aim_edge hv q v (hf q hq) h1)
  · exact ⟨.nil, by simp⟩
theorem insG_len1 {α : Type} [DecidableEq α] (lt : α → α → Bool) : ∀ (l : List α) (x : α), (insG lt l x).length ≤ l.length + 1
  | [], x => by simp [insG]
  | a :: r, x => by
    have ih := insG_len1 lt r x
    unfold insG
    split
    · simp only [List.length_cons]; omega
    · split
      · simp only [List.length_cons]; omega
      · simp only [List.length_cons]; omega
theorem setG_len1 {α : Type} [DecidableEq α] (lt : α → α → Bool) : ∀ (l acc : List α), (l.foldl (insG lt) acc).length ≤ acc.length + l.length
  | [], acc => by simp
  | x :: r, acc => by
    have h1 := setG_len1 lt r (insG lt acc x)
    have h2 := insG_len1 lt acc x
    rw [List.foldl_cons, List.length_cons]
    omega
theorem minL_len (l : List (List Int)) : (minL l).length ≤ l.length := by
  unfold minL
  split
  · unfold minS
    refine Nat.le_trans (List.length_filter_le ..) ?_
    have h1 := setG_len1 ltL l []
    unfold setG
    simpa using h1
  · simp
/-- What holds of an entry with its set. -/
def EntP (l : Lts) (p : List Nat × En) : Prop := p.1.Pairwise (· < ·) ∧ (∀ v ∈ p.1, v < l.length) ∧ p.2.2.1 = minL (accN l p.1)
theorem of_entP {l : Lts} (hv : VLts l) {n : Nat} {st : St} (h : ofL l n = some st) : ∀ p ∈ st, EntP l p := by
  refine ofB_inv (k := wkL l) ?_ ?_ h
  · have h1 := rchN_ok hv (fr := [0]) (fun v hv9 => by have := hv.pos; simp at hv9; omega)
    exact ⟨h1.1, h1.2, rfl⟩
  · intro p e hp _
    have h1 := aftN_ok hv e hp.2.1
    exact ⟨h1.1, h1.2, rfl⟩
theorem of_fits {l : Lts} (hv : VLts l) (hl : l.length ≤ 1000) {n : Nat} (hn : n ≤ 24) {st : St} (h : ofL l n = some st) : FitsN 1100 (st.map (·.2)) ∧ st.length ≤ 16384 ∧ 1 ≤ st.length := by
  obtain ⟨_, h2, h3, h4⟩ := of_vb (wkL_ok hv) hn h
  refine ⟨fun x hx => ?_, h2, h3⟩
  obtain ⟨p, hp, rfl⟩ := List.mem_map.1 hx
  obtain ⟨k1, k2, k3⟩ := of_entP hv h p hp
  have k4 := h4 p hp
  have k5 := asc_le k1 k2
  have k6 : (accN l p.1).length ≤ p.1.length := List.length_filterMap_le ..
  have k7 := minL_len (accN l p.1)
  refine ⟨by omega, by rw [k3]; omega, fun y hy => ?_⟩
  rw [k3] at hy
  obtain ⟨v, rfl⟩ := accN_of (mem_minL hy)
  have := accF_len (row_ok hv v)
  omega
end Go.Proofs.YtikpcipkkhmcfaaGreat.Beh

/- A system that the generator has made stays while the tape turns. -/
namespace Go.Proofs.YtikpcipkkhmcfaaGreat.Beh
open Go.RowKit Go.Lib Go.Proofs.YtikpcipkkhmcfaaGreat Go.Proofs.YtikpcipkkhmcfaaGreat.Ind

theorem lstab_of {tb g : Nat} {w : World} {l : Lts} (h : MAt g w l) (hg : tb < g) (hr : ∀ row ∈ l, row.length ≤ 140737488355328) : LStab tb w (some ⟨g, 0, none⟩) l := by
  intro s row hi
  obtain ⟨a, cp, h1, h2, _⟩ := h.cell hi
  refine ⟨g, 0, a, cp, rfl, fun W hf => by rw [Nat.zero_add]; exact hf.cell h1 (by simp; omega), fun j y hy => ?_⟩
  have hR := rowR_of_own (ownsB_mono h2 (Nat.zero_le _)) (Nat.le_refl _) (hr row (List.mem_of_getElem? hi))
  obtain ⟨b, o, rfl, hb, h3, _⟩ := hR.2.2.2 j y.1 y.2 hy
  obtain ⟨g9, cap, e9, _⟩ := ownsB_some h2 (by have := (List.getElem?_eq_some_iff.1 hy).1; omega)
  obtain ⟨⟨rfl, rfl⟩, rfl⟩ : (b = g9 ∧ o = 0) ∧ cp = cap := by simpa using e9
  have hk := own_lt h2 (k := b) rfl
  exact ⟨b, 0, rfl, fun W hf => hf.cell h3 (by simp; omega)⟩
end Go.Proofs.YtikpcipkkhmcfaaGreat.Beh

/- How many entries Of has, for a small system. Plain. -/
namespace Go.Proofs.YtikpcipkkhmcfaaGreat.Beh
open Go.Proofs.YtikpcipkkhmcfaaGreat Go.Proofs.YtikpcipkkhmcfaaGreat.Ind

theorem evN_len {l : Lts} {M : Nat} (hr : ∀ row ∈ l, row.length ≤ M) (s : List Nat) : (evN l s).length ≤ s.length * M := by
  have h1 := setG_len1 (fun a b : Int => decide (a < b)) (visL l s) []
  have h2 : ∀ s : List Nat, (visL l s).length ≤ s.length * M := fun s => by
    induction s with
    | nil => simp [visL]
    | cons v r ih =>
      have h3 : (visR (l.getD v [])).length ≤ M := by
        refine Nat.le_trans ?_ (?_ : (l.getD v []).length ≤ M)
        · unfold visR
          rw [List.length_map]
          exact List.length_filter_le ..
        · rw [List.getD_eq_getElem?_getD]
          cases h : l[v]? with
          | none => simp
          | some row => exact hr row (List.mem_of_getElem? h)
      unfold visL at ih ⊢
      rw [List.flatMap_cons, List.length_append, List.length_cons, Nat.succ_mul]
      omega
  have h4 := h2 s
  unfold evN setG
  simp at h1
  omega
/-- The number of entries whose trace has length d. -/
def cnt (d : Nat) (st : St) : Nat := st.countP fun p => decide (p.2.1.length = d)
theorem cnt_snoc (d : Nat) (st : St) (p : List Nat × En) : cnt d (st ++ [p]) = cnt d st + if p.2.1.length = d then 1 else 0 := by
  unfold cnt
  rw [List.countP_append]
  by_cases h : p.2.1.length = d <;> simp [h]
theorem newE_len (k : Wk) (set : List Nat) (t : List Int) (e : Int) : (newE k set t e).2.1.length = t.length + 1 := by
  show (k.ent (t ++ [e]) (k.aft set e)).1.length = _
  rw [k.tr]
  simp
theorem addL_some {k : Wk} {set : List Nat} {t : List Int} : ∀ (l : List Int) (st : St), st.length + l.length ≤ 16384 → ∃ r : St, addL k set t l st = some (st ++ r) ∧ r.length = l.length ∧ ∀ p ∈ r, p.2.1.length = t.length + 1
  | [], st, _ => ⟨[], by simp [addL], rfl, by simp⟩
  | e :: q, st, h => by
    rw [List.length_cons] at h
    obtain ⟨r, h1, h2, h3⟩ := addL_some q (st ++ [newE k set t e]) (by rw [List.length_append, List.length_singleton]; omega)
    refine ⟨newE k set t e :: r, ?_, by rw [List.length_cons, h2, List.length_cons], fun p hp => ?_⟩
    · rw [addL, if_neg (by omega), h1, List.append_assoc]
      rfl
    · rcases List.mem_cons.1 hp with rfl | hp
      · exact newE_len ..
      · exact h3 p hp
theorem cnt_app (d : Nat) (a b : St) : cnt d (a ++ b) = cnt d a + cnt d b := by
  unfold cnt
  exact List.countP_append ..
theorem cnt_all {d : Nat} : ∀ {r : St}, (∀ p ∈ r, p.2.1.length = d) → ∀ c, cnt c r = if c = d then r.length else 0
  | [], _, c => by simp [cnt]
  | p :: r, h, c => by
    have ih := cnt_all (r := r) (fun q hq => h q (List.mem_cons_of_mem _ hq)) c
    have h1 := h p (List.mem_cons_self ..)
    have h2 : cnt c (p :: r) = cnt c [p] + cnt c r := cnt_app c [p] r
    have h3 : cnt c [p] = if c = d then 1 else 0 := by
      have h4 := cnt_snoc c [] p
      rw [List.nil_append, h1] at h4
      rw [h4]
      by_cases hc : c = d
      · subst hc; simp [cnt]
      · rw [if_neg hc, if_neg (fun e => hc e.symm)]; simp [cnt]
    rw [h2, h3, ih, List.length_cons]
    split <;> omega
structure Cn (i : Nat) (st : St) : Prop where
  c0 : cnt 0 st ≤ 1
  cs : ∀ d, cnt (d + 1) st ≤ 16 * cnt d (st.take i)
theorem Cn.next {i : Nat} {st : St} (h : Cn i st) : Cn (i + 1) st := ⟨h.c0, fun d => by
  have h1 := h.cs d
  have h2 : cnt d (st.take i) ≤ cnt d (st.take (i + 1)) := by
    cases hp : st[i]? with
    | none =>
      rw [List.getElem?_eq_none_iff] at hp
      rw [List.take_of_length_le hp, List.take_of_length_le (by omega)]
      exact Nat.le_refl _
    | some p =>
      rw [Ind.take_snoc hp, cnt_app]
      omega
  omega⟩
theorem cnt_one (c : Nat) (p : List Nat × En) : cnt c [p] = if c = p.2.1.length then 1 else 0 := by
  have h := cnt_all (d := p.2.1.length) (r := [p]) (fun q hq => by rw [List.mem_singleton.1 hq]) c
  rw [h]
  rfl
theorem Cn.step {i : Nat} {st r : St} {p : List Nat × En} (h : Cn i st) (hp : st[i]? = some p) (hr : r.length ≤ 16) (hl : ∀ q ∈ r, q.2.1.length = p.2.1.length + 1) : Cn (i + 1) (st ++ r) := by
  have hi : i < st.length := (List.getElem?_eq_some_iff.1 hp).1
  refine ⟨?_, fun d => ?_⟩
  · rw [cnt_app, cnt_all hl, if_neg (by omega)]
    exact h.c0
  · have h1 := h.cs d
    rw [cnt_app, cnt_all hl, List.take_append_of_le_length (by omega), Ind.take_snoc hp, cnt_app, cnt_one]
    by_cases hd : d = p.2.1.length
    · rw [if_pos (by omega), if_pos hd]
      omega
    · rw [if_neg (by omega), if_neg hd]
      omega
theorem cnt_total : ∀ {st : St}, (∀ p ∈ st, p.2.1.length ≤ 3) → st.length = cnt 0 st + cnt 1 st + cnt 2 st + cnt 3 st
  | [], _ => by simp [cnt]
  | p :: r, h => by
    have ih := cnt_total (st := r) (fun q hq => h q (List.mem_cons_of_mem _ hq))
    have h1 := h p (List.mem_cons_self ..)
    have h2 : ∀ c, cnt c (p :: r) = (if c = p.2.1.length then 1 else 0) + cnt c r := fun c => by
      have h3 := cnt_app c [p] r
      rw [cnt_one] at h3
      exact h3
    rw [h2, h2, h2, h2, List.length_cons, ih]
    generalize p.2.1.length = m at h1
    rcases (by omega : m = 0 ∨ m = 1 ∨ m = 2 ∨ m = 3) with rfl | rfl | rfl | rfl <;> simp <;> omega
theorem Cn.few {i : Nat} {st : St} (h : Cn i st) (hl : ∀ p ∈ st, p.2.1.length ≤ 3) : st.length ≤ 4369 := by
  have h0 := h.c0
  have ht : ∀ d, cnt d (st.take i) ≤ cnt d st := fun d => by
    have h9 := cnt_app d (st.take i) (st.drop i)
    rw [List.take_append_drop] at h9
    omega
  have h1 := h.cs 0
  have h2 := h.cs 1
  have h3 := h.cs 2
  have t0 := ht 0
  have t1 := ht 1
  have t2 := ht 2
  have h4 := cnt_total hl
  simp only [Nat.zero_add, Nat.reduceAdd] at h1 h2 h3
  omega
theorem ofGo_some {k : Wk} {P : List Nat × En → Prop} (hP : ∀ p e, P p → e ∈ k.ev p.1 → P (newE k p.1 p.2.1 e)) (hE : ∀ p, P p → (k.ev p.1).length ≤ 16) : ∀ (f i : Nat) (st : St), Cn i st → (∀ p ∈ st, p.2.1.length ≤ 3) → (∀ p ∈ st, P p) → ∃ st', ofGo k 3 f i st = some st'
  | 0, i, st, _, _, _ => ⟨st, by simp [ofGo]⟩
  | f + 1, i, st, hc, hl, hs => by
    cases hp : st[i]? with
    | none => exact ⟨st, of_end (by rw [List.getElem?_eq_none_iff] at hp; exact hp)⟩
    | some p =>
      have hm := List.mem_of_getElem? hp
      by_cases hn : p.2.1.length = 3
      · rw [of_same hp hn]
        exact ofGo_some hP hE f (i + 1) st hc.next hl hs
      · have h3 := hl p hm
        have h16 := hE p (hs p hm)
        have hf := hc.few hl
        obtain ⟨r, h1, h2, h4⟩ := addL_some (k := k) (set := p.1) (t := p.2.1) (k.ev p.1) st (by omega)
        rw [of_step hp hn, h1]
        refine ofGo_some hP hE f (i + 1) (st ++ r) (hc.step hp (by omega) h4) (fun q hq => ?_) (addL_inv _ _ _ (fun e h9 => hP p e (hs p hm) h9) hs h1)
        rcases List.mem_append.1 hq with h9 | h9
        · exact hl q h9
        · have := h4 q h9
          omega
theorem of_small {l : Lts} (hv : VLts l) (h4 : l.length ≤ 4) (hr : ∀ row ∈ l, row.length ≤ 4) : ∃ st, ofL l 3 = some st := by
  have h1 := rchN_ok hv (fr := [0]) (fun v hv9 => by have := hv.pos; simp at hv9; omega)
  refine ofGo_some (k := wkL l) (P := EntP l) ?_ ?_ _ _ _ ⟨?_, fun d => ?_⟩ ?_ ?_
  · intro p e hp _
    have h1 := aftN_ok hv e hp.2.1
    exact ⟨h1.1, h1.2, rfl⟩
  · intro p hp
    have h5 := asc_le hp.1 hp.2.1
    have h6 := evN_len hr p.1
    have h7 : p.1.length * 4 ≤ 16 := by omega
    exact Nat.le_trans h6 h7
  · rw [cnt_one]
    split <;> omega
  · rw [cnt_one, if_neg (by simp [wkL])]
    omega
  · intro p hp
    rw [List.mem_singleton.1 hp]
    simp [wkL]
  · intro p hp
    rw [List.mem_singleton.1 hp]
    exact ⟨h1.1, h1.2, rfl⟩
end Go.Proofs.YtikpcipkkhmcfaaGreat.Beh

/- What a law of chapter 32 knows of a system that the generator has made. -/
namespace Go.Proofs.YtikpcipkkhmcfaaGreat.Beh
open Go.RowKit Go.Lib Go.Proofs.YtikpcipkkhmcfaaGreat Go.Proofs.YtikpcipkkhmcfaaGreat.Ind

theorem looseGo_of (n m : Nat) : ∀ (l : Lts) (c : Nat), (∀ row ∈ l, row.all (arcOk n) = true ∧ row.length ≤ m) → c + l.length * m ≤ 262144 → looseGo n c l = true
  | [], _, _, _ => rfl
  | row :: r, c, h, hc => by
    have h1 := h row (List.mem_cons_self ..)
    rw [List.length_cons, Nat.add_mul] at hc
    simp only [looseGo, Bool.and_eq_true, decide_eq_true_eq]
    exact ⟨by omega, h1.1, looseGo_of n m r _ (fun q hq => h q (List.mem_cons_of_mem _ hq)) (by omega)⟩
theorem sys_rows {n m : Nat} {l : Lts} (h : Sys n m l) : ∀ row ∈ l, Go.Proofs.YtikpcipkkhmcfaaGreat.RowOk l.length m row := fun row hr => by
  obtain ⟨i, hi⟩ := List.getElem?_of_mem hr
  exact h.row i row hi
theorem sys_valid {n m : Nat} {l : Lts} (h : Sys n m l) (hn : n ≤ 100) (hm : m ≤ 100) : validB l = true := by
  have hf := h.few
  have hp := h.pos
  have hrow := sys_rows h
  have hmul : l.length * m ≤ 100 * 100 := Nat.mul_le_mul (by omega) hm
  simp only [validB, looseB, Bool.and_eq_true, decide_eq_true_eq]
  exact ⟨⟨⟨hp, by omega⟩, looseGo_of _ m l 0 (fun row hr => ⟨List.all_eq_true.2 (hrow row hr).2.1, (hrow row hr).2.2⟩) (by omega)⟩, List.all_eq_true.2 (fun row hr => (hrow row hr).1)⟩
/-- The system may be read in all worlds in which only the tape has turned. -/
theorem lat_tape {tb g : Nat} {w : World} {l : Lts} (h : MAt g w l) (hg : tb < g) (hl : l.length ≤ 140737488355328) (hr : ∀ row ∈ l, row.length ≤ 140737488355328) : ∀ W, Frm [tb] w W → LAt w.heap.size W (some ⟨g, 0, none⟩) l.length l := fun W hf => by
  have L0 := h.lat hl hr
  refine ⟨L0.le, L0.max, hl, fun i row hi => ?_⟩
  obtain ⟨b, o, ra, rc, ha, hb, hc, hR⟩ := L0.cell i row hi
  obtain ⟨a9, cp, h1, h2, _⟩ := h.cell hi
  obtain ⟨rfl, rfl⟩ : g = b ∧ 0 = o := by simpa using ha
  have e9 : some (Value.slice a9 row.length cp) = some (Value.slice ra row.length rc) := by rw [← h1, ← hc, Nat.zero_add]
  obtain ⟨rfl, rfl⟩ : a9 = ra ∧ cp = rc := by simpa using e9
  refine ⟨g, 0, a9, cp, rfl, hb, hf.cell hc (by simp; omega), hR.1, hR.2.1, hR.2.2.1, fun j e t hj => ?_⟩
  obtain ⟨b1, o1, rfl, hb1, c1, c2⟩ := hR.2.2.2 j e t hj
  have hk := own_lt h2 (k := b1) rfl
  exact ⟨b1, o1, rfl, hb1, hf.cell c1 (by simp; omega), hf.cell c2 (by simp; omega)⟩
/-- The behavior of a small system up to length 3. -/
theorem of_res3 {l : Lts} (h : Sys 4 4 l) : ∃ b, ofRes l 3 = (0, b) ∧ FitsN 1100 b ∧ b.length ≤ 16384 ∧ 1 ≤ b.length ∧ VB b := by
  have hv := sys_valid h (by decide) (by decide)
  have hV := vlts_of hv
  obtain ⟨st, hst⟩ := of_small hV h.few (fun row hr => (sys_rows h row hr).2.2)
  obtain ⟨h1, h2, h3⟩ := of_fits hV (by have := h.few; omega) (by decide) hst
  refine ⟨st.map (·.2), ?_, h1, by rw [List.length_map]; exact h2, by rw [List.length_map]; exact h3, (of_vb (wkL_ok hV) (by decide) hst).1⟩
  rw [ofRes, if_pos ⟨hv, by omega, by omega⟩]
  show (match ofL l 3 with | none => _ | some st => _) = _
  rw [hst]
end Go.Proofs.YtikpcipkkhmcfaaGreat.Beh

/- Contracts of behaves and sane of the law. -/
namespace Go.Proofs.YtikpcipkkhmcfaaGreat.Beh
open Go.Shelf Go.RowKit Go.Lib Go.Sort Go.Maps Go.Proofs.YtikpcipkkhmcfaaGreat Go.Proofs.YtikpcipkkhmcfaaGreat.Ind

theorem ex_lat (w : World) : LAt ((w.alloc (.cells #[.int .i64 2, .int .i64 1] 66)).alloc (.cells #[.slice (some ⟨w.heap.size, 0, none⟩) 1 1, .slice none 0 0] 63)).heap.size ((w.alloc (.cells #[.int .i64 2, .int .i64 1] 66)).alloc (.cells #[.slice (some ⟨w.heap.size, 0, none⟩) 1 1, .slice none 0 0] 63)) (some ⟨w.heap.size + 1, 0, none⟩) 2 exS := by
  have r0 := (RowAt.made w 66 [.int .i64 2, .int .i64 1] #[.int .i64 2, .int .i64 1] rfl).alloc (.cells #[.slice (some ⟨w.heap.size, 0, none⟩) 1 1, .slice none 0 0] 63)
  have r1 := row_made1 w (.cells #[.int .i64 2, .int .i64 1] 66) 63 [.slice (some ⟨w.heap.size, 0, none⟩) 1 1, .slice none 0 0] #[.slice (some ⟨w.heap.size, 0, none⟩) 1 1, .slice none 0 0] rfl
  refine ⟨by decide, by decide, by decide, fun i row hi => ?_⟩
  match i, hi with
  | 0, hi =>
    cases hi
    refine ⟨w.heap.size + 1, 0, some ⟨w.heap.size, 0, none⟩, 1, rfl, by simp, r1.cell (i := 0) rfl, by decide, by decide, by decide, fun j e t hj => ?_⟩
    match j, hj with
    | 0, hj =>
      cases hj
      exact ⟨w.heap.size, 0, rfl, by simp; omega, r0.cell (i := 0) rfl, r0.cell (i := 1) rfl⟩
    | j + 1, hj => simp at hj
  | 1, hi =>
    cases hi
    refine ⟨w.heap.size + 1, 0, none, 0, rfl, by simp, r1.cell (i := 1) rfl, by decide, by decide, by decide, fun j e t hj => ?_⟩
    simp at hj
  | i + 2, hi => simp [exS] at hi
set_option linter.unusedSimpArgs false in
set_option maxRecDepth 100000 in
set_option maxHeartbeats 4000000 in
theorem sane_any (w : World) : Calls Tryz.prog 16 #[] w fun e w' => e = .returned (.bool true) ∧ Frm [] w w' := by
  have hl := ex_lat w
  have F0 := Lib.hid (((Frm.refl [] w).alloc (.cells #[.int .i64 2, .int .i64 1] 66)).alloc (.cells #[.slice (some ⟨w.heap.size, 0, none⟩) 1 1, .slice none 0 0] 63))
  have hof := of_any _ [] _ _ 2 exS 2 hl (by simp)
  have hof2 := hof.mono fun _ _ h => h.res
  rw [ex_of] at hof2
  have HOF := Lib.hid hof2
  clear hl hof hof2
  go_enter Tryz.func16, Tryz.ntmps16
  go_wp2_with (first
    | (go_at_call 30; refine HOF.out.mono ?_; rintro e1 w1 ⟨⟨a1, c1, rfl, hb1⟩, hf1⟩; have F1 := Lib.hid (F0.out.trans hf1 (by simp)); have A1 := Lib.hid hb1; clear hb1 hf1)
    | fail)
  have S := ((((((Sep.start w1).box w1.heap.size rfl 3 [.int .i64 2] #[.int .i64 2] rfl).box (w1.heap.size + 1) (by simp) 22 [.slice (some ⟨w1.heap.size, 0, none⟩) 1 1] #[.slice (some ⟨w1.heap.size, 0, none⟩) 1 1] rfl).box (w1.heap.size + 1 + 1) (by simp) 3 [.int .i64 2] #[.int .i64 2] rfl).box (w1.heap.size + 1 + 1 + 1) (by simp) 3 [] #[] rfl).box (w1.heap.size + 1 + 1 + 1 + 1) (by simp) 22 [.slice (some ⟨w1.heap.size + 1 + 1 + 1, 0, none⟩) 0 0] #[.slice (some ⟨w1.heap.size + 1 + 1 + 1, 0, none⟩) 0 0] rfl).box (w1.heap.size + 1 + 1 + 1 + 1 + 1) (by simp) 69 [.slice none 0 0, .slice (some ⟨w1.heap.size + 1, 0, none⟩) 1 1, .bool false, .slice (some ⟨w1.heap.size + 1 + 1, 0, none⟩) 1 1, .slice (some ⟨w1.heap.size + 1 + 1 + 1 + 1, 0, none⟩) 1 1, .bool false] #[.slice none 0 0, .slice (some ⟨w1.heap.size + 1, 0, none⟩) 1 1, .bool false, .slice (some ⟨w1.heap.size + 1 + 1, 0, none⟩) 1 1, .slice (some ⟨w1.heap.size + 1 + 1 + 1 + 1, 0, none⟩) 1 1, .bool false] rfl
  generalize World.alloc (World.alloc (World.alloc (World.alloc (World.alloc (World.alloc w1 _) _) _) _) _) _ = W at *
  have hbeh : BehAt W [] (.slice (some ⟨w1.heap.size + 1 + 1 + 1 + 1 + 1, 0, none⟩) 2 2) exB := by
    refine ⟨[((.slice none 0 0, .slice (some ⟨w1.heap.size + 1, 0, none⟩) 1 1), ([], [[2]], false)), ((.slice (some ⟨w1.heap.size + 1 + 1, 0, none⟩) 1 1, .slice (some ⟨w1.heap.size + 1 + 1 + 1 + 1, 0, none⟩) 1 1), ([2], [[]], false))], rfl, rowV_cells (size := 3) (S.at_ 0 rfl) rfl (Nat.le_refl _) (by decide) (by simp), fun p hp => ?_⟩
    rcases List.mem_cons.1 hp with rfl | hp
    · refine ⟨RowV.nil0 _ _ _, [(.slice (some ⟨w1.heap.size, 0, none⟩) 1 1, [2])], rfl, rowV_cells (size := 1) (S.at_ 4 rfl) rfl (Nat.le_refl _) (by decide) (by simp), fun q hq => ?_⟩
      rw [List.mem_singleton.1 hq]
      exact rowV_cells (size := 1) (S.at_ 5 rfl) rfl (Nat.le_refl _) (by decide) (by simp)
    · rw [List.mem_singleton.1 hp]
      refine ⟨rowV_cells (size := 1) (S.at_ 3 rfl) rfl (Nat.le_refl _) (by decide) (by simp), [(.slice (some ⟨w1.heap.size + 1 + 1 + 1, 0, none⟩) 0 0, [])], rfl, rowV_cells (size := 1) (S.at_ 1 rfl) rfl (Nat.le_refl _) (by decide) (by simp), fun q hq => ?_⟩
      rw [List.mem_singleton.1 hq]
      exact RowV.zero W [] _ 0 0 1 rfl (by decide)
  have HBH := Lib.hid hbeh
  have FW := Lib.hid S.frm
  clear hbeh S
  refine (refSame_any W _ _ exB exB (A1.out.nil FW.out) HBH.out).mono ?_
  rintro e3 w3 ⟨he3, hf3⟩
  rw [decide_eq_true rfl] at he3
  subst he3
  go_wp2_with fail
  go_ret
  exact ⟨rfl, (F1.out.trans FW.out (by simp)).trans hf3 (by simp)⟩
end Go.Proofs.YtikpcipkkhmcfaaGreat.Beh

/- BehaviorFind of the law answers true. -/
namespace Go.Proofs.YtikpcipkkhmcfaaGreat.Beh
open Go.Shelf Go.RowKit Go.Lib Go.Sort Go.Maps Go.Proofs.YtikpcipkkhmcfaaGreat Go.Proofs.YtikpcipkkhmcfaaGreat.Ind

set_option linter.unusedSimpArgs false in
set_option maxRecDepth 100000 in
set_option maxHeartbeats 8000000 in
theorem find_walk (ta : Option Addr) (tcap : Nat) (xs : List Int) (v : Value) (b0 : List En) (u : Value) (tr : List Int) (w : World) (ht : Rd w.heap.size w ta xs.length tcap 1 (ints xs)) (hx : ∀ x ∈ xs, -9223372036854775808 ≤ x ∧ x ≤ 9223372036854775807) (hb0 : BehAt w [] v b0) (hfit0 : Fits b0) (hu : RowV w [] u tr.length 1 (ints tr)) (_ : tr.length ≤ 17592186044416) :
    Calls Tryz.prog 4 #[.slice ta xs.length tcap, v, u] w fun e w' => e = .returned (.bool true) ∧ Frm [] w w' := by
  obtain ⟨va, vc, rfl⟩ := hb0.shape
  obtain ⟨ua, uc, rfl⟩ := hu.shape
  have hnew := tape_new w.heap.size ta tcap xs _ ht hx
  have hbl0 := beh_few hb0
  have hul := hu.rd.lt
  have HB0 := Lib.hid hb0
  have HU := Lib.hid hu
  have HFIT0 := Lib.hid hfit0
  clear ht hx hb0 hu hfit0
  go_enter Tryz.func4, Tryz.ntmps4
  go_wp2_with fail
  refine hnew.mono ?_
  rintro e1 w1 ⟨rfl, hf1, hT1, hsz1⟩
  have HF1 := Lib.hid hf1
  have HT1 := Lib.hid hT1
  clear hnew hf1 hT1
  go_wp2_with fail
  go_loopg [8] 4 (fun q i wr => ∃ (j : Nat), q = 4 - j ∧ j ≤ 4 ∧ i = .int .i64 (j : Int) ∧ TapeOk w.heap.size wr w.heap.size (20000 * j) ∧ Frm [w.heap.size] w1 wr)
  case atStart => exact ⟨0, rfl, Nat.zero_le _, rfl, HT1.out, Frm.refl _ _⟩
  case round =>
    obtain ⟨j, rfl, hj, rfl, hT, hF⟩ := hrel
    have HT := Lib.hid hT
    have HF := Lib.hid hF
    have hszr := hF.size
    have i4 : (0 : Int) ≤ (j : Int) := by omega
    clear hT hF
    by_cases hj5 : j < 4
    · have i5 : (j : Int) < 4 := by omega
      go_wp2_with fail
      refine (chain_any w.heap.size w.heap.size (20000 * j) 4 wr HT.out (Nat.le_refl _) (by omega) (by omega) (by omega)).mono ?_
      rintro e5 w5 ⟨x, g, rfl, hg, hM, hS, hT5, hf5⟩
      have hpos := hS.pos
      have hfew := hS.few
      have hrows : ∀ row ∈ x, row.length ≤ 1000 := fun row hr => by
        have := (sys_rows hS row hr).2.2
        omega
      have HROWS := Lib.hid hrows
      have HROWS2 : Hid (∀ row ∈ x, row.length ≤ 140737488355328) := Lib.hid (fun row hr => by have := hrows row hr; omega)
      have HVX := Lib.hid (sys_valid hS (by decide) (by decide))
      obtain ⟨b, hres, hfb, hbl, hbp, -⟩ := of_res3 hS
      have hsz5 := hf5.size
      have hgl := hM.lt
      have HM := Lib.hid (hM.frm ((Frm.refl [] w5).alloc (.cells #[.slice (some ⟨g, 0, none⟩) x.length x.length] 25)) (by simp))
      have HT6 : Hid (TapeOk w.heap.size (w5.alloc (.cells #[.slice (some ⟨g, 0, none⟩) x.length x.length] 25)) w.heap.size (20000 * j + 2000)) := Lib.hid (hT5.nil ((Frm.refl [] w5).alloc _))
      have HF6 := Lib.hid ((HF.out.trans hf5 (by simp)).alloc (.cells #[.slice (some ⟨g, 0, none⟩) x.length x.length] 25))
      have HB6 := Lib.hid (box1 w5 (.slice (some ⟨g, 0, none⟩) x.length x.length) 25)
      have hlen : x.length ≤ 140737488355328 := by omega
      have i6 : (x.length : Int) ≤ 1000 := by omega
      have HRES := Lib.hid hres
      have HFIN := Lib.hid hfb
      have HFIT := Lib.hid (hfb.fits (by decide))
      clear hM hS hT5 hf5 hrows hres hfb
      go_wp2_with fail
      generalize hw6 : w5.alloc (.cells #[.slice (some ⟨g, 0, none⟩) x.length x.length] 25) = w6 at *
      have hz6 : w5.heap.size < w6.heap.size := by rw [← hw6]; simp
      clear hw6
      have hdr := draw_any w6.heap.size [w.heap.size] w6 (.pointer (some ⟨w.heap.size, 0, none⟩)) _ _ x 3 (HM.out.lat hlen HROWS2.out) (fun k hk => by simp at hk; omega)
      rw [HRES.out] at hdr
      refine hdr.mono ?_
      rintro e7 w7 ⟨⟨a7, c7, rfl, hb7⟩, hf7⟩
      clear hdr
      have hb9 : BehAt w7 [w.heap.size] (.slice a7 b.length c7) b := hb7
      have HBEH : Hid (∀ W, Frm [w.heap.size] w7 W → BehAt W [w.heap.size] (.slice a7 b.length c7) b) := Lib.hid fun W hf => hb9.step hf (fun k hk => .inl hk) (fun k hk => .inl hk)
      have HT7 := Lib.hid (HT6.out.nil hf7)
      have HM7 := HM.out.frm hf7 (by simp)
      have hz7 := hf7.size
      have HLT : Hid (∀ W, Frm [w.heap.size] w7 W → (∀ W', Frm [w.heap.size] W W' → LAt W.heap.size W' (some ⟨g, 0, none⟩) x.length x) ∧ LStab w.heap.size W (some ⟨g, 0, none⟩) x) := Lib.hid fun W hf => ⟨lat_tape (HM7.frm hf (by simp; omega)) (by omega) hlen HROWS2.out, lstab_of (HM7.frm hf (by simp; omega)) (by omega) HROWS2.out⟩
      have HTF : Hid (∀ W, Frm [w.heap.size] w7 W → ∀ k ∈ [w.heap.size], k < W.heap.size) := Lib.hid fun W hf k hk => by
        have := hf.size
        simp at hk
        omega
      have KEEP : Hid (∀ W, Frm [w.heap.size] w7 W → W.cell? ⟨w5.heap.size, 0, none⟩ = some (.slice (some ⟨g, 0, none⟩) x.length x.length)) := Lib.hid fun W hf => ((HB6.out.frm hf7 (by simp)).frm hf (by simp; omega)).cell (i := 0) rfl
      have HF7 := Lib.hid (HF6.out.trans hf7 (by simp))
      clear hb7 hb9 hf7 HM7 hz7
      go_wp2_with fail
      refine wp_region_held_drew (S := fun w' => w'.cell? ⟨w5.heap.size, 0, none⟩ = some (.slice (some ⟨g, 0, none⟩) x.length x.length)) (by kernel_rfl) (KEEP.out _ (Frm.refl _ w7).drew) ?_
      intro hHeld
      refine wpAnyH_take (i := 0) (v := ?_) rfl (by kernel_rfl) (by kernel_rfl) (by kernel_rfl) (fun _ _ _ h => h) (Or.inl ⟨by rfl, ?_⟩) (by assumption) ?_
      rotate_left
      · intro w9 hS9
        try dsimp only at hS9
        go_split_ands
        go_simp
        try with_reducible rfl
      try simp only [Act.put, List.getElem_toArray, List.getElem_cons_succ, List.getElem_cons_zero, List.setIfInBounds_toArray, List.set_cons_zero, List.set_cons_succ]
      refine wpAnyH_take (i := 1) (v := ?_) rfl (by kernel_rfl) (by kernel_rfl) (by kernel_rfl) (fun _ _ _ h => h) (Or.inl ⟨by rfl, ?_⟩) (by assumption) ?_
      rotate_left
      · intro w9 hS9
        try dsimp only at hS9
        go_split_ands
        go_simp
        try with_reducible rfl
      try simp only [Act.put, List.getElem_toArray, List.getElem_cons_succ, List.getElem_cons_zero, List.setIfInBounds_toArray, List.set_cons_zero, List.set_cons_succ]
      refine wpAnyH_take (i := 2) (v := ?_) rfl (by kernel_rfl) (by kernel_rfl) (by kernel_rfl) (fun _ _ _ h => h) (Or.inl ⟨by rfl, ?_⟩) (by assumption) ?_
      rotate_left
      · intro w9 hS9
        try dsimp only at hS9
        go_split_ands
        go_simp
        try with_reducible rfl
      try simp only [Act.put, List.getElem_toArray, List.getElem_cons_succ, List.getElem_cons_zero, List.setIfInBounds_toArray, List.set_cons_zero, List.set_cons_succ]
      refine wpAnyH_ready (rs := [3]) (by kernel_rfl) (by simp) ?_
      refine AllReadyH.cons rfl (fun K hK => ?_) AllReadyH.nil
      go_simp
      have f7 : Frm [w.heap.size] w7 w7.drew := (Frm.refl [w.heap.size] w7).drew
      refine (walk_any w.heap.size w.heap.size (20000 * j + 2000) 4 w7.drew (some ⟨g, 0, none⟩) x.length x (HT7.out.nil (Frm.refl [] w7).drew) (Nat.le_refl _) (by omega) (by omega) HVX.out (by omega) (by omega) HROWS.out (HLT.out _ f7).1 (HLT.out _ f7).2).mono ?_
      rintro e8 w8 ⟨a8, c8, y8, rfl, hy8, own8, hT8, hf8⟩
      have f8 := f7.trans hf8 (fun k hk => .inl hk)
      refine hK.out _ _ ?_ (fun hHeld => ?_)
      · exact KEEP.out _ f8
      clear hK K
      try simp only [Act.put, List.getElem_toArray, List.getElem_cons_succ, List.getElem_cons_zero, List.setIfInBounds_toArray, List.set_cons_zero, List.set_cons_succ]
      refine wpAnyH_ready (rs := [4]) (by kernel_rfl) (by simp) ?_
      refine AllReadyH.cons rfl (fun K hK => ?_) AllReadyH.nil
      go_simp
      refine (finds_any (F := [w.heap.size]) (G := []) w8 _ _ b _ (HBEH.out _ f8) (rowV_of_owns (F := []) own8 (by simp)) (HTF.out _ f8) HFIT.out).mono ?_
      rintro e9 w9 ⟨rfl, hf9⟩
      have f9 := f8.trans hf9 (by simp)
      refine hK.out _ _ ?_ (fun hHeld => ?_)
      · exact KEEP.out _ f9
      clear hK K
      try simp only [Act.put, List.getElem_toArray, List.getElem_cons_succ, List.getElem_cons_zero, List.setIfInBounds_toArray, List.set_cons_zero, List.set_cons_succ]
      refine wpAnyH_take (i := 5) (v := ?_) rfl (by kernel_rfl) (by kernel_rfl) (by kernel_rfl) (fun _ _ _ h => h) (Or.inl ⟨by rfl, ?_⟩) (by assumption) ?_
      rotate_left
      · intro w9 hS9
        try dsimp only at hS9
        go_split_ands
        go_simp
        try with_reducible rfl
      try simp only [Act.put, List.getElem_toArray, List.getElem_cons_succ, List.getElem_cons_zero, List.setIfInBounds_toArray, List.set_cons_zero, List.set_cons_succ]
      refine wpAnyH_take (i := 6) (v := ?_) rfl (by kernel_rfl) (by kernel_rfl) (by kernel_rfl) (fun _ _ _ h => h) (Or.inl ⟨by rfl, ?_⟩) (by assumption) ?_
      rotate_left
      · intro w9 hS9
        try dsimp only at hS9
        go_split_ands
        go_simp
        try with_reducible rfl
      try simp only [Act.put, List.getElem_toArray, List.getElem_cons_succ, List.getElem_cons_zero, List.setIfInBounds_toArray, List.set_cons_zero, List.set_cons_succ]
      refine wpAnyH_take (i := 7) (v := ?_) rfl (by kernel_rfl) (by kernel_rfl) (by kernel_rfl) (fun _ _ _ h => h) (Or.inl ⟨by rfl, ?_⟩) (by assumption) ?_
      rotate_left
      · intro w9 hS9
        try dsimp only at hS9
        go_split_ands
        go_simp
        try with_reducible rfl
      try simp only [Act.put, List.getElem_toArray, List.getElem_cons_succ, List.getElem_cons_zero, List.setIfInBounds_toArray, List.set_cons_zero, List.set_cons_succ]
      refine wpAnyH_take (i := 8) (v := ?_) rfl (by kernel_rfl) (by kernel_rfl) (by kernel_rfl) (fun _ _ _ h => h) (Or.inl ⟨by rfl, ?_⟩) (by assumption) ?_
      rotate_left
      · intro w9 hS9
        try dsimp only at hS9
        go_split_ands
        go_simp
        try with_reducible rfl
      try simp only [Act.put, List.getElem_toArray, List.getElem_cons_succ, List.getElem_cons_zero, List.setIfInBounds_toArray, List.set_cons_zero, List.set_cons_succ]
      refine wpAnyH_ready (rs := [9]) (by kernel_rfl) (by simp) ?_
      refine AllReadyH.cons rfl (fun K hK => ?_) AllReadyH.nil
      go_simp
      refine (trace_any w.heap.size w.heap.size (20000 * j + 2000 + 5000) 3 w9 (hT8.nil hf9) (Nat.le_refl _) (by omega) (by omega)).mono ?_
      rintro e10 w10 ⟨a10, c10, y10, rfl, hy10, own10, hT10, hf10⟩
      have f10 := f9.trans hf10 (fun k hk => .inl hk)
      refine hK.out _ _ ?_ (fun hHeld => ?_)
      · exact KEEP.out _ f10
      clear hK K
      try simp only [Act.put, List.getElem_toArray, List.getElem_cons_succ, List.getElem_cons_zero, List.setIfInBounds_toArray, List.set_cons_zero, List.set_cons_succ]
      refine wpAnyH_ready (rs := [10]) (by kernel_rfl) (by simp) ?_
      refine AllReadyH.cons rfl (fun K hK => ?_) AllReadyH.nil
      go_simp
      refine (finds_any (F := [w.heap.size]) (G := []) w10 _ _ b _ (HBEH.out _ f10) (rowV_of_owns (F := []) own10 (by simp)) (HTF.out _ f10) HFIT.out).mono ?_
      rintro e11 w11 ⟨rfl, hf11⟩
      have f11 := f10.trans hf11 (by simp)
      refine hK.out _ _ ?_ (fun hHeld => ?_)
      · exact KEEP.out _ f11
      clear hK K
      try simp only [Act.put, List.getElem_toArray, List.getElem_cons_succ, List.getElem_cons_zero, List.setIfInBounds_toArray, List.set_cons_zero, List.set_cons_succ]
      refine wpAnyH_take (i := 11) (v := ?_) rfl (by kernel_rfl) (by kernel_rfl) (by kernel_rfl) (fun _ _ _ h => h) (Or.inl ⟨by rfl, ?_⟩) (by assumption) ?_
      rotate_left
      · intro w9 hS9
        try dsimp only at hS9
        go_split_ands
        go_simp
        try with_reducible rfl
      try simp only [Act.put, List.getElem_toArray, List.getElem_cons_succ, List.getElem_cons_zero, List.setIfInBounds_toArray, List.set_cons_zero, List.set_cons_succ]
      refine wpAnyH_take (i := 12) (v := ?_) rfl (by kernel_rfl) (by kernel_rfl) (by kernel_rfl) (fun _ _ _ h => h) (Or.inl ⟨by rfl, ?_⟩) (by assumption) ?_
      rotate_left
      · intro w9 hS9
        try dsimp only at hS9
        go_split_ands
        go_simp
        try with_reducible rfl
      try simp only [Act.put, List.getElem_toArray, List.getElem_cons_succ, List.getElem_cons_zero, List.setIfInBounds_toArray, List.set_cons_zero, List.set_cons_succ]
      refine wpAnyH_take (i := 13) (v := ?_) rfl (by kernel_rfl) (by kernel_rfl) (by kernel_rfl) (fun _ _ _ h => h) (Or.inl ⟨by rfl, ?_⟩) (by assumption) ?_
      rotate_left
      · intro w9 hS9
        try dsimp only at hS9
        go_split_ands
        go_simp
        try with_reducible rfl
      try simp only [Act.put, List.getElem_toArray, List.getElem_cons_succ, List.getElem_cons_zero, List.setIfInBounds_toArray, List.set_cons_zero, List.set_cons_succ]
      refine wpAnyH_take (i := 14) (v := ?_) rfl (by kernel_rfl) (by kernel_rfl) (by kernel_rfl) (fun _ _ _ h => h) (Or.inl ⟨by rfl, ?_⟩) (by assumption) ?_
      rotate_left
      · intro w9 hS9
        try dsimp only at hS9
        go_split_ands
        go_simp
        try with_reducible rfl
      try simp only [Act.put, List.getElem_toArray, List.getElem_cons_succ, List.getElem_cons_zero, List.setIfInBounds_toArray, List.set_cons_zero, List.set_cons_succ]
      refine wpAnyH_take (i := 15) (v := ?_) rfl (by kernel_rfl) (by kernel_rfl) (by kernel_rfl) (fun _ _ _ h => h) (Or.inl ⟨by rfl, ?_⟩) (by assumption) ?_
      rotate_left
      · intro w9 hS9
        try dsimp only at hS9
        go_split_ands
        go_simp
        try with_reducible rfl
      try simp only [Act.put, List.getElem_toArray, List.getElem_cons_succ, List.getElem_cons_zero, List.setIfInBounds_toArray, List.set_cons_zero, List.set_cons_succ]
      refine wpAnyH_take (i := 17) (v := ?_) rfl (by kernel_rfl) (by kernel_rfl) (by kernel_rfl) (fun _ _ _ h => h) (Or.inl ⟨by rfl, ?_⟩) (by assumption) ?_
      rotate_left
      · intro w9 hS9
        try dsimp only at hS9
        go_split_ands
        go_simp
        try with_reducible rfl
      try simp only [Act.put, List.getElem_toArray, List.getElem_cons_succ, List.getElem_cons_zero, List.setIfInBounds_toArray, List.set_cons_zero, List.set_cons_succ]
      refine wpAnyH_take (i := 18) (v := ?_) rfl (by kernel_rfl) (by kernel_rfl) (by kernel_rfl) (fun _ _ _ h => h) (Or.inl ⟨by rfl, ?_⟩) (by assumption) ?_
      rotate_left
      · intro w9 hS9
        try dsimp only at hS9
        go_split_ands
        go_simp
        try with_reducible rfl
      try simp only [Act.put, List.getElem_toArray, List.getElem_cons_succ, List.getElem_cons_zero, List.setIfInBounds_toArray, List.set_cons_zero, List.set_cons_succ]
      refine wpAnyH_ready (rs := [16]) (by kernel_rfl) (by simp) ?_
      refine AllReadyH.cons rfl (fun K hK => ?_) AllReadyH.nil
      go_simp
      refine (spoilB_any w.heap.size w.heap.size (20000 * j + 2000 + 5000 + 2000) [w.heap.size] w11 _ b (HBEH.out _ f11) (hT10.nil hf11) (Nat.le_refl _) (by omega) (by simp) (HTF.out _ f11) (by omega) (by omega) HFIN.out).mono ?_
      rintro e12 w12 ⟨a12, c12, d, rfl, hd12, hfit12, hdl, hT12, hf12⟩
      have f12 := f11.trans hf12 (fun k hk => .inl hk)
      refine hK.out _ _ ?_ (fun hHeld => ?_)
      · exact KEEP.out _ f12
      clear hK K
      try simp only [Act.put, List.getElem_toArray, List.getElem_cons_succ, List.getElem_cons_zero, List.setIfInBounds_toArray, List.set_cons_zero, List.set_cons_succ]
      refine wpAnyH_ready (rs := [19]) (by kernel_rfl) (by simp) ?_
      refine AllReadyH.cons rfl (fun K hK => ?_) AllReadyH.nil
      go_simp
      refine (walk_any w.heap.size w.heap.size (20000 * j + 2000 + 5000 + 2000 + 2) 3 w12 (some ⟨g, 0, none⟩) x.length x hT12 (Nat.le_refl _) (by omega) (by omega) HVX.out (by omega) (by omega) HROWS.out (HLT.out _ f12).1 (HLT.out _ f12).2).mono ?_
      rintro e13 w13 ⟨a13, c13, y13, rfl, hy13, own13, hT13, hf13⟩
      have f13 := f12.trans hf13 (fun k hk => .inl hk)
      refine hK.out _ _ ?_ (fun hHeld => ?_)
      · exact KEEP.out _ f13
      clear hK K
      try simp only [Act.put, List.getElem_toArray, List.getElem_cons_succ, List.getElem_cons_zero, List.setIfInBounds_toArray, List.set_cons_zero, List.set_cons_succ]
      refine wpAnyH_ready (rs := [20]) (by kernel_rfl) (by simp) ?_
      refine AllReadyH.cons rfl (fun K hK => ?_) AllReadyH.nil
      go_simp
      refine (finds_any (F := [w.heap.size]) (G := []) w13 _ _ d _ (hd12.step hf13 (fun k hk => .inl hk) (fun k hk => .inl hk)) (rowV_of_owns (F := []) own13 (by simp)) (HTF.out _ f13) (hfit12.fits (by decide))).mono ?_
      rintro e14 w14 ⟨rfl, hf14⟩
      have f14 := f13.trans hf14 (by simp)
      have hT14 := hT13.nil hf14
      refine hK.out _ _ ?_ (fun hHeld => ?_)
      · exact KEEP.out _ f14
      clear hK K
      try simp only [Act.put, List.getElem_toArray, List.getElem_cons_succ, List.getElem_cons_zero, List.setIfInBounds_toArray, List.set_cons_zero, List.set_cons_succ]
      refine wpAnyH_take (i := 21) (v := ?_) rfl (by kernel_rfl) (by kernel_rfl) (by kernel_rfl) (fun _ _ _ h => h) (Or.inl ⟨by rfl, ?_⟩) (by assumption) ?_
      rotate_left
      · intro w9 hS9
        try dsimp only at hS9
        go_split_ands
        go_simp
        try with_reducible rfl
      try simp only [Act.put, List.getElem_toArray, List.getElem_cons_succ, List.getElem_cons_zero, List.setIfInBounds_toArray, List.set_cons_zero, List.set_cons_succ]
      refine wpAnyH_take (i := 22) (v := ?_) rfl (by kernel_rfl) (by kernel_rfl) (by kernel_rfl) (fun _ _ _ h => h) (Or.inl ⟨by rfl, ?_⟩) (by assumption) ?_
      rotate_left
      · intro w9 hS9
        try dsimp only at hS9
        go_split_ands
        go_simp
        try with_reducible rfl
      try simp only [Act.put, List.getElem_toArray, List.getElem_cons_succ, List.getElem_cons_zero, List.setIfInBounds_toArray, List.set_cons_zero, List.set_cons_succ]
      refine wpAnyH_done (by kernel_rfl) ?_ _
      go_wp2_with fail
      go_roundg (4 - (j + 1))
      case rel => exact ⟨j + 1, rfl, hj5, by go_num, hT14.mono (by omega), HF7.out.trans f14 (by simp)⟩
      case measure => omega
    · have i5 : ¬ (j : Int) < 4 := by omega
      have HFW : Hid (Frm [w.heap.size] w wr) := Lib.hid ((HF1.out.mono (by simp)).trans HF.out (by simp))
      have HFIN : Hid (Frm [] w wr) := Lib.hid (HF1.out.trans HF.out (fun k hk => .inr (by simp at hk; omega)))
      have HBR := Lib.hid (HB0.out.step (F' := []) HFW.out (fun k hk => .inr (by simp at hk; omega)) (by simp))
      have HUR := Lib.hid (HU.out.step (F' := []) HFW.out (fun k hk => .inr (by simp at hk; omega)) (by simp))
      have HSA : Hid (∀ W, Calls Tryz.prog 16 #[] W fun e w' => e = .returned (.bool true) ∧ Frm [] W w') := Lib.hid sane_any
      clear hj5
      by_cases h6 : 12 < b0.length
      · have i6 : (12 : Int) < (b0.length : Int) := by omega
        go_wp2_with fail
        go_ret
        exact ⟨rfl, HFIN.out⟩
      · have i6 : ¬ (12 : Int) < (b0.length : Int) := by omega
        by_cases h7 : 30 < tr.length
        · have i7 : (30 : Int) < (tr.length : Int) := by omega
          go_wp2_with fail
          go_ret
          exact ⟨rfl, HFIN.out⟩
        · have i7 : ¬ (30 : Int) < (tr.length : Int) := by omega
          go_wp2_with (first
            | (go_at_call 18; refine (finds_any (F := []) (G := []) wr _ _ b0 tr HBR.out HUR.out (by simp) HFIT0.out).mono ?_; rintro e4 w4 ⟨rfl, hf4⟩)
            | (go_at_call 16; refine (HSA.out _).mono ?_; rintro e5 w5 ⟨rfl, hf5⟩)
            | fail)
          go_ret
          exact ⟨rfl, (HFIN.out.trans hf4 (by simp)).trans hf5 (by simp)⟩
end Go.Proofs.YtikpcipkkhmcfaaGreat.Beh
