/- Rows of sets: slices.Equal, slices.Clone, the striking of doubles (plain). -/
import Derived.Test.YtikpcipkkhmcfaaGreatQ21
import Derived.Test.YtikpcipkkhmcfaaGreatQ05
import Derived.Test.YtikpcipkkhmcfaaGreatQ06
import Derived.Test.YtikpcipkkhmcfaaGreatQ22
namespace Go.Proofs.YtikpcipkkhmcfaaGreat.Beh
open Go.RowKit Go.Lib Go.Proofs.YtikpcipkkhmcfaaGreat Go.Proofs.YtikpcipkkhmcfaaGreat.Ind

theorem infoIs : (Tryz.prog.info? 22).map (fun i => (i.zero, i.size, i.bytes)) = some (some (.slice none 0 0), 1, 24) := by kernel_rfl
/-- A set and the value by which it is held. -/
abbrev PV := Value × List Int
def PsAt (w : World) (F : List Nat) (ps : List PV) : Prop := ∀ p ∈ ps, RowV w F p.1 p.2.length 1 (ints p.2)
theorem PsAt.step {w w' : World} {F F' fp : List Nat} {ps : List PV} (h : PsAt w F ps) (hf : Frm fp w w') (hn : ∀ k ∈ fp, k ∈ F ∨ w.heap.size ≤ k) (hF : ∀ k ∈ F', k ∈ F ∨ w.heap.size ≤ k) : PsAt w' F' ps := fun p hp => (h p hp).step hf hn hF
theorem PsAt.nil {w w' : World} {F : List Nat} {ps : List PV} (h : PsAt w F ps) (hf : Frm [] w w') : PsAt w' F ps := fun p hp => (h p hp).nil hf
theorem PsAt.one {w : World} {F : List Nat} {ps : List PV} (h : PsAt w F ps) : ∀ u ∈ ps.map (·.1), u.oneCell' = true := by
 intro u hu
 obtain ⟨p, hp, rfl⟩ := List.mem_map.1 hu
 obtain ⟨a, c, e⟩ := (h p hp).shape
 rw [e]; rfl
theorem SetsAt.ps {w : World} {F : List Nat} {v : Value} {l : List (List Int)} (h : SetsAt w F v l) : ∃ ps : List PV, ps.map (·.2) = l ∧ RowV w F v l.length 1 (ps.map (·.1)) ∧ PsAt w F ps := h

/-! The first of equal neighbours. -/
def snocF (acc : List PV) (x : PV) : List PV := if acc.getLast?.map (·.2) = some x.2 then acc else acc ++ [x]
def compF (l : List PV) : List PV := l.foldl snocF []
theorem compF_snoc (l : List PV) (x : PV) : compF (l ++ [x]) = snocF (compF l) x := by simp [compF]
theorem compF_last (l : List PV) : (compF l).getLast?.map (·.2) = l.getLast?.map (·.2) := by
 rcases List.eq_nil_or_concat l with rfl | ⟨r, x, rfl⟩
 ·rfl
 ·rw [List.concat_eq_append, compF_snoc, snocF]
  split
  ·rename_i h
   rw [h]; simp
  ·simp
theorem compF_step (l : List PV) (x : PV) : compF (l ++ [x]) = if l.getLast?.map (·.2) = some x.2 then compF l else compF l ++ [x] := by
 rw [compF_snoc, snocF, compF_last]
theorem compG_eq_snoc {α : Type} [DecidableEq α] (l : List α) (x : α) : compG (l ++ [x]) = if l.getLast? = some x then compG l else compG l ++ [x] := by
 induction l with
 | nil => simp [compG]
 | cons a r ih =>
  cases r with
  | nil => by_cases h : a = x <;> simp [compG, h]
  | cons b r =>
   rw [List.cons_append] at ih
   rw [List.cons_append, List.cons_append, List.getLast?_cons_cons, compG, ih, compG]
   by_cases h : a = b
   ·rw [if_pos h, if_pos h]
   ·rw [if_neg h, if_neg h]
    split <;> rfl
theorem compF_rows : ∀ (n : Nat) (l : List PV), l.length = n → (compF l).map (·.2) = compG (l.map (·.2))
 | 0, l, h => by rw [List.eq_nil_of_length_eq_zero h]; rfl
 | n + 1, l, h => by
  rcases List.eq_nil_or_concat l with rfl | ⟨r, x, rfl⟩
  ·simp at h
  ·rw [List.concat_eq_append] at h ⊢
   have ih := compF_rows n r (by simpa using h)
   rw [compF_step, List.map_append, List.map_cons, List.map_nil, compG_eq_snoc, List.getLast?_map]
   split
   ·exact ih
   ·rw [List.map_append, ih]; rfl
theorem mem_compF : ∀ (l : List PV), ∀ p ∈ compF l, p ∈ l := by
 have h : ∀ (l acc : List PV), ∀ p ∈ l.foldl snocF acc, p ∈ acc ∨ p ∈ l := by
  intro l
  induction l with
  | nil => intro acc p hp; exact .inl hp
  | cons x r ih =>
   intro acc p hp
   rcases ih _ p hp with h1 | h1
   ·unfold snocF at h1
    split at h1
    ·exact .inl h1
    ·rcases List.mem_append.1 h1 with h2 | h2
     ·exact .inl h2
     ·rw [List.mem_singleton.1 h2]; exact .inr (by simp)
   ·exact .inr (List.mem_cons_of_mem _ h1)
 intro l p hp
 rcases h l [] p hp with h1 | h1
 ·cases h1
 ·exact h1
theorem compF_len (l : List PV) : (compF l).length ≤ l.length := by
 have h : ∀ (l acc : List PV), (l.foldl snocF acc).length ≤ acc.length + l.length := by
  intro l
  induction l with
  | nil => intro acc; simp
  | cons x r ih =>
   intro acc
   have h1 := ih (snocF acc x)
   have h2 : (snocF acc x).length ≤ acc.length + 1 := by
    unfold snocF
    split
    ·omega
    ·simp
   rw [List.foldl_cons, List.length_cons]
   omega
 have := h l []
 rw [List.length_nil, Nat.zero_add] at this
 exact this

set_option maxRecDepth 100000 in
theorem equalI_any {F G : List Nat} (w : World) (u v : Value) (xs ys : List Int) (h1 : RowV w F u xs.length 1 (ints xs)) (h2 : RowV w G v ys.length 1 (ints ys)) :
  Calls Tryz.prog 70 #[u, v] w fun e w' => e = .returned (.bool (decide (xs = ys))) ∧ Frm [] w w' := by
 obtain ⟨a, ca, rfl⟩ := RowV.shape h1
 obtain ⟨b, cb, rfl⟩ := RowV.shape h2
 have l1 := h1.rd.lt
 have l2 := h2.rd.lt
 have H1 := Lib.hid h1
 have H2 := Lib.hid h2
 clear h1 h2
 by_cases hl : xs.length = ys.length
 ·have HL := Lib.hid hl
  have jn : ((xs.length : Int) != (ys.length : Int)) = false := by rw [hl]; simp
  clear hl
  go_enter Tryz.func70, Tryz.ntmps70
  go_wp2_with fail
  go_loopg [13] xs.length (fun q t wr => ∃ (k : Nat), q = xs.length - k ∧ k ≤ xs.length ∧ t = .int .i64 k ∧ xs.take k = ys.take k ∧ Frm [] w wr)
  case atStart => exact ⟨0, rfl, Nat.zero_le _, rfl, rfl, Frm.refl _ _⟩
  case round =>
   obtain ⟨k, hq, hk, rfl, htk, hF⟩ := hrel
   have HQ := Lib.hid hq
   have FW := Lib.hid hF
   have HT := Lib.hid htk
   have i4 : (0 : Int) ≤ (k : Int) := by omega
   clear hq hF htk
   by_cases hlt : k < xs.length
   ·have i5 : (k : Int) < (xs.length : Int) := by omega
    have hlt2 : k < ys.length := by have := HL.out; omega
    have i6 : (k : Int) < (ys.length : Int) := by omega
    obtain ⟨x, hx⟩ : ∃ x, xs[k]? = some x := ⟨_, List.getElem?_eq_getElem hlt⟩
    obtain ⟨y, hy⟩ : ∃ y, ys[k]? = some y := ⟨_, List.getElem?_eq_getElem hlt2⟩
    obtain ⟨g, o, rfl, _, c1⟩ := H1.out.rd.at hx
    obtain ⟨g', o', rfl, _, c2⟩ := H2.out.rd.at hy
    have d1 := FW.out.cell c1 (by simp)
    have d2 := FW.out.cell c2 (by simp)
    have HX := Lib.hid hx
    have HY := Lib.hid hy
    clear c1 c2 hx hy
    by_cases hxy : x = y
    ·subst hxy
     go_wp2_with fail
     go_quiet (fail)
     go_wp2_with fail
     go_roundg (xs.length - (k + 1))
     case rel => exact ⟨k + 1, rfl, by omega, by go_num, take_next2 HT.out HX.out HY.out, FW.out.drewN _⟩
     case measure => have := HQ.out; omega
    ·have hne : (x != y) = true := by simpa using hxy
     have HR : Hid (decide (xs = ys) = false) := Lib.hid (by
      rw [decide_eq_false_iff_not]
      intro h9
      have h8 := HX.out
      rw [h9, HY.out] at h8
      exact hxy (by cases h8; rfl))
     clear hxy
     go_wp2_with fail
     go_quiet (fail)
     go_wp2_with fail
     go_ret
     exact ⟨by rw [HR.out]; rfl, FW.out.drewN _⟩
   ·have i5 : ¬ (k : Int) < (xs.length : Int) := by omega
    have HR : Hid (decide (xs = ys) = true) := Lib.hid (by
     have e := HT.out
     rw [List.take_of_length_le (by omega), List.take_of_length_le (by have := HL.out; omega)] at e
     rw [e]; simp)
    go_wp2_with fail
    go_ret
    exact ⟨by rw [HR.out]; rfl, FW.out⟩
 ·have jn : ((xs.length : Int) != (ys.length : Int)) = true := by simp; omega
  have HR : Hid (decide (xs = ys) = false) := Lib.hid (by simp; rintro rfl; exact hl rfl)
  clear hl
  go_enter Tryz.func70, Tryz.ntmps70
  go_wp2_with fail
  go_ret
  exact ⟨by rw [HR.out]; rfl, Frm.refl _ _⟩

set_option linter.unusedSimpArgs false in
set_option maxRecDepth 100000 in
set_option maxHeartbeats 4000000 in
theorem cloneS_any {F : List Nat} (w : World) (v : Value) (n : Nat) (us : List Value) (h : RowV w F v n 1 us) (h1 : ∀ u ∈ us, u.oneCell' = true) (hl : n ≤ 5864062014805) :
  Calls Tryz.prog 102 #[v] w fun e w' => (∃ a c, e = .returned (.slice a n c) ∧ w'.ownsRow w.heap.size 22 1 (.slice a n c) n us) ∧ Frm [] w w' := by
 obtain ⟨a, c, rfl⟩ := RowV.shape h
 have H1 := Lib.hid h1
 cases a with
 | none =>
  obtain ⟨hx, a', c', e', hc1, _, h0, _⟩ := h
  cases e'
  have hc := h0 rfl
  subst hc
  have hn0 : n = 0 := by omega
  subst hn0
  have hl0 : us = [] := List.eq_nil_of_length_eq_zero (by rw [hx, Nat.zero_mul])
  subst hl0
  have e1 := @Lib.run_eql_slice_nil Tryz.prog
  clear h1
  go_enter Tryz.func102, Tryz.ntmps102
  go_wp2_with fail
  go_ret
  exact ⟨⟨none, 0, rfl, rfl, .inl ⟨rfl, rfl⟩⟩, Frm.refl _ _⟩
 | some p =>
  have H := Lib.hid h
  clear h h1
  have e1 := @Lib.run_eql_slice_nil Tryz.prog
  go_enter Tryz.func102, Tryz.ntmps102
  go_wp2_with (first | (at_builtin; refine app_rowB rfl (.tmp 5) (.tmp 6) 67 22 _ 1 24 rfl Tryz.underlying67 infoIs rfl (by decide) w.heap.size 0 (.slice (some ⟨w.heap.size, 0, none⟩) 0 0) [] rfl (owns_made0 w 22 1) _ n us F rfl (RowV.nil H.out ((Frm.refl [] w).alloc _)) H1.out n (Nat.zero_add _) (by omega) (by omega) (by simp) ?_; intro a1 c1 w1 own1 hf1 hl1) | fail)
  go_ret
  exact ⟨⟨a1, c1, rfl, by simpa using own1⟩, frm_own ((Frm.refl [] w).alloc _) (owns_made0 w 22 1) (Nat.le_refl _) hf1⟩
end Go.Proofs.YtikpcipkkhmcfaaGreat.Beh
