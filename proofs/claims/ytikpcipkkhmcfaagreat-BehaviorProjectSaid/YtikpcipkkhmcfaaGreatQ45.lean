/- The reference's Antichain. -/
import Derived.Test.YtikpcipkkhmcfaaGreatQ07
import Derived.Test.YtikpcipkkhmcfaaGreatQ05
import Derived.Deep.RegionHeld3
import Derived.Deep.DeepCutAuto
import Derived.Test.YtikpcipkkhmcfaaGreatQ00
namespace Go.Proofs.YtikpcipkkhmcfaaGreat.Beh
open Go.Shelf Go.RowKit Go.Lib Go.Proofs.YtikpcipkkhmcfaaGreat Go.Proofs.YtikpcipkkhmcfaaGreat.Ind

noncomputable def antiB (l : List (List Int)) : Bool := @decide (Anti l) (Classical.propDecidable _)
theorem antiB_iff {l : List (List Int)} : antiB l = true ↔ Anti l := by unfold antiB; simp
theorem antiB_no {l : List (List Int)} (h : ¬ Anti l) : antiB l = false := by
 cases hb : antiB l with
 | true => exact absurd (antiB_iff.1 hb) h
 | false => rfl
/-- What is known after the first i sets. -/
structure AntiTo (l : List (List Int)) (i : Nat) : Prop where
 rise : ∀ a x, a < i → l[a]? = some x → Ind.ascB x = true
 asc : ∀ a x y, a + 1 < i → l[a]? = some x → l[a + 1]? = some y → ltL x y = true
 none : ∀ a b x y, a < i → a ≠ b → l[a]? = some x → l[b]? = some y → subI x y = false
theorem antiTo_zero (l : List (List Int)) : AntiTo l 0 := ⟨by omega, by omega, by omega⟩
theorem asc_adj {α : Type} {lt : α → α → Bool} (O : STO lt) : ∀ {l : List α}, (∀ a x y, l[a]? = some x → l[a + 1]? = some y → lt x y = true) → Asc lt l
 | [], _ => .nil
 | [x], _ => List.pairwise_singleton _ _
 | x :: y :: r, h => by
  have ih := asc_adj O (l := y :: r) (fun a p q hp hq => h (a + 1) p q hp hq)
  have h0 := h 0 x y rfl rfl
  refine List.pairwise_cons.2 ⟨fun z hz => ?_, ih⟩
  rcases List.mem_cons.1 hz with rfl | hz
  ·exact h0
  ·exact O.trans _ _ _ h0 ((List.pairwise_cons.1 ih).1 z hz)
theorem anti_of_to {l : List (List Int)} (h : AntiTo l l.length) : Anti l := by
 have hl : ∀ {a : Nat} {x : List Int}, l[a]? = some x → a < l.length := fun hx => (List.getElem?_eq_some_iff.1 hx).1
 refine ⟨fun x hx => ?_, asc_adj sto_list (fun a x y hx hy => h.asc a x y (hl hy) hx hy), fun x hx y hy hne => ?_⟩
 ·obtain ⟨a, ha⟩ := List.getElem?_of_mem hx
  exact h.rise a x (hl ha) ha
 ·obtain ⟨a, ha⟩ := List.getElem?_of_mem hx
  obtain ⟨b, hb⟩ := List.getElem?_of_mem hy
  refine h.none b a y x (hl hb) (fun e => ?_) hb ha
  subst e
  rw [ha] at hb
  exact hne (by cases hb; rfl)
theorem Anti.at_ {l : List (List Int)} (h : Anti l) {a b : Nat} {x y : List Int} (hab : a ≠ b) (hx : l[a]? = some x) (hy : l[b]? = some y) : subI x y = false := by
 refine h.none y (List.mem_of_getElem? hy) x (List.mem_of_getElem? hx) (fun e => ?_)
 subst e
 obtain ⟨h1, e1⟩ := List.getElem?_eq_some_iff.1 hx
 obtain ⟨h2, e2⟩ := List.getElem?_eq_some_iff.1 hy
 exact hab ((List.getElem_inj (asc_nodup sto_list h.asc)).1 (by rw [e1, e2]))
theorem Anti.adj {l : List (List Int)} (h : Anti l) {a : Nat} {x y : List Int} (hx : l[a]? = some x) (hy : l[a + 1]? = some y) : ltL x y = true := by
 obtain ⟨h1, e1⟩ := List.getElem?_eq_some_iff.1 hx
 obtain ⟨h2, e2⟩ := List.getElem?_eq_some_iff.1 hy
 have h9 := List.pairwise_iff_getElem.1 h.asc a (a + 1) h1 h2 (by omega)
 rw [e1, e2] at h9
 exact h9
theorem AntiTo.next {l : List (List Int)} {i : Nat} {x : List Int} (h : AntiTo l i) (hx : l[i]? = some x) (h1 : Ind.ascB x = true) (h2 : ∀ p y, i = p + 1 → l[p]? = some y → ltL y x = true) (h3 : ∀ b y, i ≠ b → l[b]? = some y → subI x y = false) : AntiTo l (i + 1) := by
 refine ⟨fun a z ha hz => ?_, fun a z y ha hz hy => ?_, fun a b z y ha hab hz hy => ?_⟩
 ·by_cases he : a = i
  ·subst he; rw [hx] at hz; cases hz; exact h1
  ·exact h.rise a z (by omega) hz
 ·by_cases he : a + 1 = i
  ·rw [he, hx] at hy; cases hy; exact h2 a z he.symm hz
  ·exact h.asc a z y (by omega) hz hy
 ·by_cases he : a = i
  ·subst he; rw [hx] at hz; cases hz; exact h3 b y hab hy
  ·exact h.none a b z y (by omega) hab hz hy
set_option linter.unusedSimpArgs false in
set_option maxRecDepth 100000 in
set_option maxHeartbeats 8000000 in
theorem antichain_any {F : List Nat} (w : World) (v : Value) (rows : List (List Int)) (h : SetsAt w F v rows) :
  Calls Tryz.prog 49 #[v] w fun e w' => e = .returned (.bool (antiB rows)) ∧ Frm [] w w' := by
 have l1 := sets_few h
 obtain ⟨va, vc, rfl⟩ := h.shape
 have HAT : Hid (∀ W, Frm [] w W → ∀ (i : Nat) (x : List Int), rows[i]? = some x → ∃ b o xa xc, va = some ⟨b, o, none⟩ ∧ W.cell? ⟨b, o + i, none⟩ = some (.slice xa x.length xc) ∧ RowV W F (.slice xa x.length xc) x.length 1 (ints x)) := Lib.hid fun W hf i x hx => by
  obtain ⟨b, o, d, xa, xc, e1, x1, x2⟩ := h.at_ hx
  obtain ⟨rfl, rfl⟩ : va = some ⟨b, o, none⟩ ∧ vc = d := by simpa using e1
  exact ⟨b, o, xa, xc, rfl, hf.cell x1 (by simp), x2.nil hf⟩
 clear h
 go_enter Tryz.func49, Tryz.ntmps49
 go_wp2_with fail
 go_loopg [3, 4] rows.length (fun q t3 t4 wr => ∃ (i : Nat), q = rows.length - i ∧ i ≤ rows.length ∧ t3 = .int .i64 i ∧ AntiTo rows i ∧ Frm [] w wr)
 case atStart => exact ⟨0, rfl, Nat.zero_le _, rfl, antiTo_zero _, Frm.refl _ _⟩
 case round =>
  obtain ⟨i, hq, hi, rfl, hd, hF⟩ := hrel
  have HQ := Lib.hid hq
  have HF := Lib.hid hF
  have HD := Lib.hid hd
  have i4 : (0 : Int) ≤ (i : Int) := by omega
  clear hq hF hd
  by_cases hlt : i < rows.length
  ·have i5 : (i : Int) < (rows.length : Int) := by omega
   obtain ⟨x, hx⟩ : ∃ x, rows[i]? = some x := ⟨_, List.getElem?_eq_getElem hlt⟩
   obtain ⟨b, o, xa, xc, rfl, cx, hrx⟩ := HAT.out wr HF.out i x hx
   have HX := Lib.hid hx
   have HRX : Hid (∀ W, Frm [] wr W → RowV W F (.slice xa x.length xc) x.length 1 (ints x)) := Lib.hid fun W hf => hrx.nil hf
   have CX : Hid (∀ W, Frm [] wr W → W.cell? ⟨b, o + i, none⟩ = some (.slice xa x.length xc)) := Lib.hid fun W hf => hf.cell cx (by simp)
   clear hx hrx cx
   have HY : Hid (∀ p, i = p + 1 → ∃ y ya yc, rows[p]? = some y ∧ (∀ W, Frm [] wr W → W.cell? ⟨b, o + p, none⟩ = some (.slice ya y.length yc)) ∧ ∀ W, Frm [] wr W → RowV W F (.slice ya y.length yc) y.length 1 (ints y)) := Lib.hid fun p hp => by
    obtain ⟨y, hy⟩ : ∃ y, rows[p]? = some y := ⟨_, List.getElem?_eq_getElem (by omega)⟩
    obtain ⟨b', o', ya, yc, e9, cy, hry⟩ := HAT.out wr HF.out p y hy
    obtain ⟨rfl, rfl⟩ : b = b' ∧ o = o' := by simpa using e9
    exact ⟨y, ya, yc, hy, fun W hf => hf.cell cy (by simp), fun W hf => hry.nil hf⟩
   go_upto_region 4 with fail
   go_cut [33] (fun s33 wx => ∃ bb : Bool, s33 = .bool bb ∧ (bb = true → ¬ Anti rows) ∧ (bb = false → Ind.ascB x = true ∧ ∀ p y, i = p + 1 → rows[p]? = some y → ltL y x = true) ∧ Frm [] wr wx)
   case first =>
    cases hr1 : Ind.ascB x with
    | false =>
     have HR1 := Lib.hid hr1
     have HC0 : Hid (∀ W, Frm [] wr W → Calls Tryz.prog 80 #[.slice xa x.length xc] W fun e w' => e = .returned (.bool false) ∧ Frm [] W w') := Lib.hid fun W hf => by
      have hcall := Ind.rising_any W.heap.size xa xc x W (HRX.out _ hf).rd
      rw [hr1] at hcall
      exact hcall
     clear hr1 HY
     go_wp2_with fail
     have f0 : Frm [] wr wr.drew := (Frm.refl [] wr).drew
     refine wp_region_held_drew (S := fun w' => w'.cell? ⟨b, o + i, none⟩ = some (.slice xa x.length xc)) (by kernel_rfl) (CX.out _ f0) ?_
     intro hHeld
     refine qtk 0 (v := ?_) rfl (by kernel_rfl) (fun _ _ _ h => h) (by rfl) (by assumption) ?_ ?_
     rotate_left
     ·(intro w9 hS9; (try dsimp only at hS9); go_split_ands; go_simp; try with_reducible rfl)
     try simp only [Act.put, qgA, qgS, qg0, qsA, qs0, qsS]
     refine qtk 1 (v := ?_) rfl (by kernel_rfl) (fun _ _ _ h => h) (by rfl) (by assumption) ?_ ?_
     rotate_left
     ·(intro w9 hS9; (try dsimp only at hS9); go_split_ands; go_simp; try with_reducible rfl)
     try simp only [Act.put, qgA, qgS, qg0, qsA, qs0, qsS]
     refine qtk 2 (v := ?_) rfl (by kernel_rfl) (fun _ _ _ h => h) (by rfl) (by assumption) ?_ ?_
     rotate_left
     ·(intro w9 hS9; (try dsimp only at hS9); go_split_ands; go_simp; try with_reducible rfl)
     try simp only [Act.put, qgA, qgS, qg0, qsA, qs0, qsS]
     refine qtk 3 (v := ?_) rfl (by kernel_rfl) (fun _ _ _ h => h) (by rfl) (by assumption) ?_ ?_
     rotate_left
     ·(intro w9 hS9; (try dsimp only at hS9); go_split_ands; go_simp; try with_reducible rfl)
     try simp only [Act.put, qgA, qgS, qg0, qsA, qs0, qsS]
     refine wpAnyH_ready (rs := [4]) (by kernel_rfl) (by simp) ?_
     refine AllReadyH.cons rfl (fun K hK => ?_) AllReadyH.nil
     go_simp
     refine (HC0.out _ f0).mono ?_
     rintro e5 w5 ⟨rfl, hf5⟩
     have hy5 := f0.trans hf5 (by simp)
     refine hK.out _ _ ?_ (fun hHeld => ?_)
     ·exact CX.out _ hy5
     clear hK K
     try simp only [Act.put, qgA, qgS, qg0, qsA, qs0, qsS]
     refine qtk 5 (v := ?_) rfl (by kernel_rfl) (fun _ _ _ h => h) (by rfl) (by assumption) ?_ ?_
     rotate_left
     ·(intro w9 hS9; (try dsimp only at hS9); go_split_ands; go_simp; try with_reducible rfl)
     try simp only [Act.put, qgA, qgS, qg0, qsA, qs0, qsS]
     refine qtk 6 (v := ?_) rfl (by kernel_rfl) (fun _ _ _ h => h) (by rfl) (by assumption) ?_ ?_
     rotate_left
     ·(intro w9 hS9; (try dsimp only at hS9); go_split_ands; go_simp; try with_reducible rfl)
     try simp only [Act.put, qgA, qgS, qg0, qsA, qs0, qsS]
     refine qdr 7 rfl (by kernel_rfl) (fun _ _ _ h => h) (by rfl) (by assumption) ?_
     try simp only [Act.put, qgA, qgS, qg0, qsA, qs0, qsS]
     refine qdr 8 rfl (by kernel_rfl) (fun _ _ _ h => h) (by rfl) (by assumption) ?_
     try simp only [Act.put, qgA, qgS, qg0, qsA, qs0, qsS]
     refine qdr 9 rfl (by kernel_rfl) (fun _ _ _ h => h) (by rfl) (by assumption) ?_
     try simp only [Act.put, qgA, qgS, qg0, qsA, qs0, qsS]
     refine qdr 10 rfl (by kernel_rfl) (fun _ _ _ h => h) (by rfl) (by assumption) ?_
     try simp only [Act.put, qgA, qgS, qg0, qsA, qs0, qsS]
     refine qdr 11 rfl (by kernel_rfl) (fun _ _ _ h => h) (by rfl) (by assumption) ?_
     try simp only [Act.put, qgA, qgS, qg0, qsA, qs0, qsS]
     refine qdr 12 rfl (by kernel_rfl) (fun _ _ _ h => h) (by rfl) (by assumption) ?_
     try simp only [Act.put, qgA, qgS, qg0, qsA, qs0, qsS]
     refine qdr 13 rfl (by kernel_rfl) (fun _ _ _ h => h) (by rfl) (by assumption) ?_
     try simp only [Act.put, qgA, qgS, qg0, qsA, qs0, qsS]
     refine qdr 14 rfl (by kernel_rfl) (fun _ _ _ h => h) (by rfl) (by assumption) ?_
     try simp only [Act.put, qgA, qgS, qg0, qsA, qs0, qsS]
     refine qdr 15 rfl (by kernel_rfl) (fun _ _ _ h => h) (by rfl) (by assumption) ?_
     try simp only [Act.put, qgA, qgS, qg0, qsA, qs0, qsS]
     refine qdr 16 rfl (by kernel_rfl) (fun _ _ _ h => h) (by rfl) (by assumption) ?_
     try simp only [Act.put, qgA, qgS, qg0, qsA, qs0, qsS]
     refine qdr 17 rfl (by kernel_rfl) (fun _ _ _ h => h) (by rfl) (by assumption) ?_
     try simp only [Act.put, qgA, qgS, qg0, qsA, qs0, qsS]
     refine qdr 18 rfl (by kernel_rfl) (fun _ _ _ h => h) (by rfl) (by assumption) ?_
     try simp only [Act.put, qgA, qgS, qg0, qsA, qs0, qsS]
     refine qdr 19 rfl (by kernel_rfl) (fun _ _ _ h => h) (by rfl) (by assumption) ?_
     try simp only [Act.put, qgA, qgS, qg0, qsA, qs0, qsS]
     refine qdr 20 rfl (by kernel_rfl) (fun _ _ _ h => h) (by rfl) (by assumption) ?_
     try simp only [Act.put, qgA, qgS, qg0, qsA, qs0, qsS]
     refine qdr 21 rfl (by kernel_rfl) (fun _ _ _ h => h) (by rfl) (by assumption) ?_
     try simp only [Act.put, qgA, qgS, qg0, qsA, qs0, qsS]
     refine qtk 22 (v := ?_) rfl (by kernel_rfl) (fun _ _ _ h => h) (by rfl) (by assumption) ?_ ?_
     rotate_left
     ·(intro w9 hS9; (try dsimp only at hS9); go_split_ands; go_simp; try with_reducible rfl)
     try simp only [Act.put, qgA, qgS, qg0, qsA, qs0, qsS]
     refine wpAnyH_done (by kernel_rfl) ?_ _
     go_wp2_with fail
     go_meet
     exact ⟨_, rfl, (fun _ ha => by have h9 := ha.rise x (List.mem_of_getElem? HX.out); rw [HR1.out] at h9; cases h9), (by simp), hy5⟩
    | true =>
     have HR1 := Lib.hid hr1
     have HC0 : Hid (∀ W, Frm [] wr W → Calls Tryz.prog 80 #[.slice xa x.length xc] W fun e w' => e = .returned (.bool true) ∧ Frm [] W w') := Lib.hid fun W hf => by
      have hcall := Ind.rising_any W.heap.size xa xc x W (HRX.out _ hf).rd
      rw [hr1] at hcall
      exact hcall
     clear hr1
     rcases (show i = 0 ∨ ∃ p, i = p + 1 by cases i; exact .inl rfl; exact .inr ⟨_, rfl⟩) with hi0 | ⟨p, hip⟩
     ·have j0 : ¬ (0 : Int) < (i : Int) := by omega
      have j0n : ¬ 0 < i := by omega
      have HI0 := Lib.hid hi0
      clear hi0
      go_wp2_with fail
      have f0 : Frm [] wr wr.drew := (Frm.refl [] wr).drew
      refine wp_region_held_drew (S := fun w' => w'.cell? ⟨b, o + i, none⟩ = some (.slice xa x.length xc)) (by kernel_rfl) (CX.out _ f0) ?_
      intro hHeld
      refine qtk 0 (v := ?_) rfl (by kernel_rfl) (fun _ _ _ h => h) (by rfl) (by assumption) ?_ ?_
      rotate_left
      ·(intro w9 hS9; (try dsimp only at hS9); go_split_ands; go_simp; try with_reducible rfl)
      try simp only [Act.put, qgA, qgS, qg0, qsA, qs0, qsS]
      refine qtk 1 (v := ?_) rfl (by kernel_rfl) (fun _ _ _ h => h) (by rfl) (by assumption) ?_ ?_
      rotate_left
      ·(intro w9 hS9; (try dsimp only at hS9); go_split_ands; go_simp; try with_reducible rfl)
      try simp only [Act.put, qgA, qgS, qg0, qsA, qs0, qsS]
      refine qtk 2 (v := ?_) rfl (by kernel_rfl) (fun _ _ _ h => h) (by rfl) (by assumption) ?_ ?_
      rotate_left
      ·(intro w9 hS9; (try dsimp only at hS9); go_split_ands; go_simp; try with_reducible rfl)
      try simp only [Act.put, qgA, qgS, qg0, qsA, qs0, qsS]
      refine qtk 3 (v := ?_) rfl (by kernel_rfl) (fun _ _ _ h => h) (by rfl) (by assumption) ?_ ?_
      rotate_left
      ·(intro w9 hS9; (try dsimp only at hS9); go_split_ands; go_simp; try with_reducible rfl)
      try simp only [Act.put, qgA, qgS, qg0, qsA, qs0, qsS]
      refine wpAnyH_ready (rs := [4]) (by kernel_rfl) (by simp) ?_
      refine AllReadyH.cons rfl (fun K hK => ?_) AllReadyH.nil
      go_simp
      refine (HC0.out _ f0).mono ?_
      rintro e5 w5 ⟨rfl, hf5⟩
      have hy5 := f0.trans hf5 (by simp)
      refine hK.out _ _ ?_ (fun hHeld => ?_)
      ·exact CX.out _ hy5
      clear hK K
      try simp only [Act.put, qgA, qgS, qg0, qsA, qs0, qsS]
      refine qtk 5 (v := ?_) rfl (by kernel_rfl) (fun _ _ _ h => h) (by rfl) (by assumption) ?_ ?_
      rotate_left
      ·(intro w9 hS9; (try dsimp only at hS9); go_split_ands; go_simp; try with_reducible rfl)
      try simp only [Act.put, qgA, qgS, qg0, qsA, qs0, qsS]
      refine qtk 6 (v := ?_) rfl (by kernel_rfl) (fun _ _ _ h => h) (by rfl) (by assumption) ?_ ?_
      rotate_left
      ·(intro w9 hS9; (try dsimp only at hS9); go_split_ands; go_simp; try with_reducible rfl)
      try simp only [Act.put, qgA, qgS, qg0, qsA, qs0, qsS]
      refine qtk 7 (v := ?_) rfl (by kernel_rfl) (fun _ _ _ h => h) (by rfl) (by assumption) ?_ ?_
      rotate_left
      ·(intro w9 hS9; (try dsimp only at hS9); go_split_ands; go_simp; try with_reducible rfl)
      try simp only [Act.put, qgA, qgS, qg0, qsA, qs0, qsS]
      refine qtk 8 (v := ?_) rfl (by kernel_rfl) (fun _ _ _ h => h) (by rfl) (by assumption) ?_ ?_
      rotate_left
      ·(intro w9 hS9; (try dsimp only at hS9); go_split_ands; go_simp; try with_reducible rfl)
      try simp only [Act.put, qgA, qgS, qg0, qsA, qs0, qsS]
      refine qtk 9 (v := ?_) rfl (by kernel_rfl) (fun _ _ _ h => h) (by rfl) (by assumption) ?_ ?_
      rotate_left
      ·(intro w9 hS9; (try dsimp only at hS9); go_split_ands; go_simp; try with_reducible rfl)
      try simp only [Act.put, qgA, qgS, qg0, qsA, qs0, qsS]
      refine qdr 10 rfl (by kernel_rfl) (fun _ _ _ h => h) (by rfl) (by assumption) ?_
      try simp only [Act.put, qgA, qgS, qg0, qsA, qs0, qsS]
      refine qdr 11 rfl (by kernel_rfl) (fun _ _ _ h => h) (by rfl) (by assumption) ?_
      try simp only [Act.put, qgA, qgS, qg0, qsA, qs0, qsS]
      refine qdr 12 rfl (by kernel_rfl) (fun _ _ _ h => h) (by rfl) (by assumption) ?_
      try simp only [Act.put, qgA, qgS, qg0, qsA, qs0, qsS]
      refine qdr 13 rfl (by kernel_rfl) (fun _ _ _ h => h) (by rfl) (by assumption) ?_
      try simp only [Act.put, qgA, qgS, qg0, qsA, qs0, qsS]
      refine qdr 14 rfl (by kernel_rfl) (fun _ _ _ h => h) (by rfl) (by assumption) ?_
      try simp only [Act.put, qgA, qgS, qg0, qsA, qs0, qsS]
      refine qdr 15 rfl (by kernel_rfl) (fun _ _ _ h => h) (by rfl) (by assumption) ?_
      try simp only [Act.put, qgA, qgS, qg0, qsA, qs0, qsS]
      refine qdr 16 rfl (by kernel_rfl) (fun _ _ _ h => h) (by rfl) (by assumption) ?_
      try simp only [Act.put, qgA, qgS, qg0, qsA, qs0, qsS]
      refine qdr 17 rfl (by kernel_rfl) (fun _ _ _ h => h) (by rfl) (by assumption) ?_
      try simp only [Act.put, qgA, qgS, qg0, qsA, qs0, qsS]
      refine qdr 18 rfl (by kernel_rfl) (fun _ _ _ h => h) (by rfl) (by assumption) ?_
      try simp only [Act.put, qgA, qgS, qg0, qsA, qs0, qsS]
      refine qdr 19 rfl (by kernel_rfl) (fun _ _ _ h => h) (by rfl) (by assumption) ?_
      try simp only [Act.put, qgA, qgS, qg0, qsA, qs0, qsS]
      refine qdr 20 rfl (by kernel_rfl) (fun _ _ _ h => h) (by rfl) (by assumption) ?_
      try simp only [Act.put, qgA, qgS, qg0, qsA, qs0, qsS]
      refine qtk 21 (v := ?_) rfl (by kernel_rfl) (fun _ _ _ h => h) (by rfl) (by assumption) ?_ ?_
      rotate_left
      ·(intro w9 hS9; (try dsimp only at hS9); go_split_ands; go_simp; try with_reducible rfl)
      try simp only [Act.put, qgA, qgS, qg0, qsA, qs0, qsS]
      refine qtk 22 (v := ?_) rfl (by kernel_rfl) (fun _ _ _ h => h) (by rfl) (by assumption) ?_ ?_
      rotate_left
      ·(intro w9 hS9; (try dsimp only at hS9); go_split_ands; go_simp; try with_reducible rfl)
      try simp only [Act.put, qgA, qgS, qg0, qsA, qs0, qsS]
      refine wpAnyH_done (by kernel_rfl) ?_ _
      go_wp2_with fail
      go_meet
      exact ⟨_, rfl, (by simp), (fun _ => ⟨HR1.out, fun p9 y9 h9 => by have := HI0.out; omega⟩), hy5⟩
     ·obtain ⟨y, ya, yc, hy, CY, HRY⟩ := HY.out p hip
      have j1 : (0 : Int) < (i : Int) := by omega
      have j1n : 0 < i := by omega
      have j2 : IntKind.i64.wrap ((i : Int) - 1) = (p : Int) := by rw [IntWalk.i64_in _ (by omega)]; omega
      have j3 : (0 : Int) ≤ (p : Int) := by omega
      have j6 : (p : Int) < (rows.length : Int) := by omega
      have CY := Lib.hid CY
      have HIP := Lib.hid hip
      clear hip
      have HYY := Lib.hid hy
      have HC1 : Hid (∀ W, Frm [] wr W → Calls Tryz.prog 50 #[.slice ya y.length yc, .slice xa x.length xc] W fun e w' => e = .returned (.bool (ltL y x)) ∧ Frm [] W w') := Lib.hid fun W hf => lessInts_any W.heap.size W.heap.size ya xa yc xc y x W (HRY _ hf).rd (HRX.out _ hf).rd
      clear hy HRY HY
      generalize hB : ltL y x = B at *
      have HB := Lib.hid hB
      clear hB
      go_wp2_with fail
      have f0 : Frm [] wr wr.drew := (Frm.refl [] wr).drew
      refine wp_region_held_drew (S := fun w' => w'.cell? ⟨b, o + i, none⟩ = some (.slice xa x.length xc) ∧ w'.cell? ⟨b, o + p, none⟩ = some (.slice ya y.length yc)) (by kernel_rfl) (⟨CX.out _ f0, CY.out _ f0⟩) ?_
      intro hHeld
      refine qtk 0 (v := ?_) rfl (by kernel_rfl) (fun _ _ _ h => h) (by rfl) (by assumption) ?_ ?_
      rotate_left
      ·(intro w9 hS9; (try dsimp only at hS9); go_split_ands; go_simp; try with_reducible rfl)
      try simp only [Act.put, qgA, qgS, qg0, qsA, qs0, qsS]
      refine qtk 1 (v := ?_) rfl (by kernel_rfl) (fun _ _ _ h => h) (by rfl) (by assumption) ?_ ?_
      rotate_left
      ·(intro w9 hS9; (try dsimp only at hS9); go_split_ands; go_simp; try with_reducible rfl)
      try simp only [Act.put, qgA, qgS, qg0, qsA, qs0, qsS]
      refine qtk 2 (v := ?_) rfl (by kernel_rfl) (fun _ _ _ h => h) (by rfl) (by assumption) ?_ ?_
      rotate_left
      ·(intro w9 hS9; (try dsimp only at hS9); go_split_ands; go_simp; try with_reducible rfl)
      try simp only [Act.put, qgA, qgS, qg0, qsA, qs0, qsS]
      refine qtk 3 (v := ?_) rfl (by kernel_rfl) (fun _ _ _ h => h) (by rfl) (by assumption) ?_ ?_
      rotate_left
      ·(intro w9 hS9; (try dsimp only at hS9); go_split_ands; go_simp; try with_reducible rfl)
      try simp only [Act.put, qgA, qgS, qg0, qsA, qs0, qsS]
      refine wpAnyH_ready (rs := [4]) (by kernel_rfl) (by simp) ?_
      refine AllReadyH.cons rfl (fun K hK => ?_) AllReadyH.nil
      go_simp
      refine (HC0.out _ f0).mono ?_
      rintro e5 w5 ⟨rfl, hf5⟩
      have hy5 := f0.trans hf5 (by simp)
      refine hK.out _ _ ?_ (fun hHeld => ?_)
      ·exact ⟨CX.out _ hy5, CY.out _ hy5⟩
      clear hK K
      try simp only [Act.put, qgA, qgS, qg0, qsA, qs0, qsS]
      refine qtk 5 (v := ?_) rfl (by kernel_rfl) (fun _ _ _ h => h) (by rfl) (by assumption) ?_ ?_
      rotate_left
      ·(intro w9 hS9; (try dsimp only at hS9); go_split_ands; go_simp; try with_reducible rfl)
      try simp only [Act.put, qgA, qgS, qg0, qsA, qs0, qsS]
      refine qtk 6 (v := ?_) rfl (by kernel_rfl) (fun _ _ _ h => h) (by rfl) (by assumption) ?_ ?_
      rotate_left
      ·(intro w9 hS9; (try dsimp only at hS9); go_split_ands; go_simp; try with_reducible rfl)
      try simp only [Act.put, qgA, qgS, qg0, qsA, qs0, qsS]
      refine qtk 7 (v := ?_) rfl (by kernel_rfl) (fun _ _ _ h => h) (by rfl) (by assumption) ?_ ?_
      rotate_left
      ·(intro w9 hS9; (try dsimp only at hS9); go_split_ands; go_simp; try with_reducible rfl)
      try simp only [Act.put, qgA, qgS, qg0, qsA, qs0, qsS]
      refine qtk 8 (v := ?_) rfl (by kernel_rfl) (fun _ _ _ h => h) (by rfl) (by assumption) ?_ ?_
      rotate_left
      ·(intro w9 hS9; (try dsimp only at hS9); go_split_ands; go_simp; try with_reducible rfl)
      try simp only [Act.put, qgA, qgS, qg0, qsA, qs0, qsS]
      refine qtk 9 (v := ?_) rfl (by kernel_rfl) (fun _ _ _ h => h) (by rfl) (by assumption) ?_ ?_
      rotate_left
      ·(intro w9 hS9; (try dsimp only at hS9); go_split_ands; go_simp; try with_reducible rfl)
      try simp only [Act.put, qgA, qgS, qg0, qsA, qs0, qsS]
      refine qtk 10 (v := ?_) rfl (by kernel_rfl) (fun _ _ _ h => h) (by rfl) (by assumption) ?_ ?_
      rotate_left
      ·(intro w9 hS9; (try dsimp only at hS9); go_split_ands; go_simp; try with_reducible rfl)
      try simp only [Act.put, qgA, qgS, qg0, qsA, qs0, qsS]
      refine qtk 11 (v := ?_) rfl (by kernel_rfl) (fun _ _ _ h => h) (by rfl) (by assumption) ?_ ?_
      rotate_left
      ·(intro w9 hS9; (try dsimp only at hS9); go_split_ands; go_simp; try with_reducible rfl)
      try simp only [Act.put, qgA, qgS, qg0, qsA, qs0, qsS]
      refine qtk 12 (v := ?_) rfl (by kernel_rfl) (fun _ _ _ h => h) (by rfl) (by assumption) ?_ ?_
      rotate_left
      ·(intro w9 hS9; (try dsimp only at hS9); go_split_ands; go_simp; try with_reducible rfl)
      try simp only [Act.put, qgA, qgS, qg0, qsA, qs0, qsS]
      refine qtk 13 (v := ?_) rfl (by kernel_rfl) (fun _ _ _ h => h) (by rfl) (by assumption) ?_ ?_
      rotate_left
      ·(intro w9 hS9; (try dsimp only at hS9); go_split_ands; go_simp; try with_reducible rfl)
      try simp only [Act.put, qgA, qgS, qg0, qsA, qs0, qsS]
      refine qtk 14 (v := ?_) rfl (by kernel_rfl) (fun _ _ _ h => h) (by rfl) (by assumption) ?_ ?_
      rotate_left
      ·(intro w9 hS9; (try dsimp only at hS9); go_split_ands; go_simp; try with_reducible rfl)
      try simp only [Act.put, qgA, qgS, qg0, qsA, qs0, qsS]
      refine qtk 15 (v := ?_) rfl (by kernel_rfl) (fun _ _ _ h => h) (by rfl) (by assumption) ?_ ?_
      rotate_left
      ·(intro w9 hS9; (try dsimp only at hS9); go_split_ands; go_simp; try with_reducible rfl)
      try simp only [Act.put, qgA, qgS, qg0, qsA, qs0, qsS]
      refine qtk 16 (v := ?_) rfl (by kernel_rfl) (fun _ _ _ h => h) (by rfl) (by assumption) ?_ ?_
      rotate_left
      ·(intro w9 hS9; (try dsimp only at hS9); go_split_ands; go_simp; try with_reducible rfl)
      try simp only [Act.put, qgA, qgS, qg0, qsA, qs0, qsS]
      refine qtk 17 (v := ?_) rfl (by kernel_rfl) (fun _ _ _ h => h) (by rfl) (by assumption) ?_ ?_
      rotate_left
      ·(intro w9 hS9; (try dsimp only at hS9); go_split_ands; go_simp; try with_reducible rfl)
      try simp only [Act.put, qgA, qgS, qg0, qsA, qs0, qsS]
      refine qtk 18 (v := ?_) rfl (by kernel_rfl) (fun _ _ _ h => h) (by rfl) (by assumption) ?_ ?_
      rotate_left
      ·(intro w9 hS9; (try dsimp only at hS9); go_split_ands; go_simp; try with_reducible rfl)
      try simp only [Act.put, qgA, qgS, qg0, qsA, qs0, qsS]
      refine wpAnyH_ready (rs := [19]) (by kernel_rfl) (by simp) ?_
      refine AllReadyH.cons rfl (fun K hK => ?_) AllReadyH.nil
      go_simp
      refine (HC1.out _ hy5).mono ?_
      rintro e6 w6 ⟨rfl, hf6⟩
      have hy6 := hy5.trans hf6 (by simp)
      refine hK.out _ _ ?_ (fun hHeld => ?_)
      ·exact ⟨CX.out _ hy6, CY.out _ hy6⟩
      clear hK K
      try simp only [Act.put, qgA, qgS, qg0, qsA, qs0, qsS]
      refine qtk 20 (v := ?_) rfl (by kernel_rfl) (fun _ _ _ h => h) (by rfl) (by assumption) ?_ ?_
      rotate_left
      ·(intro w9 hS9; (try dsimp only at hS9); go_split_ands; go_simp; try with_reducible rfl)
      try simp only [Act.put, qgA, qgS, qg0, qsA, qs0, qsS]
      refine qtk 21 (v := ?_) rfl (by kernel_rfl) (fun _ _ _ h => h) (by rfl) (by assumption) ?_ ?_
      rotate_left
      ·(intro w9 hS9; (try dsimp only at hS9); go_split_ands; go_simp; try with_reducible rfl)
      try simp only [Act.put, qgA, qgS, qg0, qsA, qs0, qsS]
      refine qtk 22 (v := ?_) rfl (by kernel_rfl) (fun _ _ _ h => h) (by rfl) (by assumption) ?_ ?_
      rotate_left
      ·(intro w9 hS9; (try dsimp only at hS9); go_split_ands; go_simp; try with_reducible rfl)
      try simp only [Act.put, qgA, qgS, qg0, qsA, qs0, qsS]
      refine wpAnyH_done (by kernel_rfl) ?_ _
      go_wp2_with fail
      go_meet
      refine ⟨_, rfl, fun e ha => ?_, fun e => ⟨HR1.out, fun p9 y9 hp9 hy9 => ?_⟩, hy6⟩
      ·have h9 := ha.adj HYY.out (by rw [← HIP.out]; exact HX.out)
       rw [HB.out] at h9
       rw [h9] at e
       cases e
      ·obtain rfl : p = p9 := by have := HIP.out; omega
       have e9 := HYY.out.symm.trans hy9
       cases e9
       rw [HB.out]
       simpa using e
   case rest =>
    obtain ⟨bb, rfl, hb1, hb2, hFX⟩ := hcut
    cases bb with
    | true =>
     have HN : Hid (antiB rows = false) := Lib.hid (antiB_no (hb1 rfl))
     clear hb1 hb2
     go_wp2_with fail
     go_ret
     exact ⟨by rw [HN.out]; rfl, HF.out.trans hFX (by simp)⟩
    | false =>
     obtain ⟨h5, h6⟩ := hb2 rfl
     have HR1 := Lib.hid h5
     have HADJ := Lib.hid h6
     have HFX : Hid (Frm [] w wc) := Lib.hid (HF.out.trans hFX (by simp))
     clear hb1 hb2 h5 h6 hFX HY HRX CX
     go_wp2_with fail
     go_loopg [4] rows.length (fun q t4 wr => ∃ (k : Nat), q = rows.length - k ∧ k ≤ rows.length ∧ t4 = .int .i64 k ∧ (∀ b y, b < k → i ≠ b → rows[b]? = some y → subI x y = false) ∧ Frm [] w wr)
     case atStart => exact ⟨0, rfl, Nat.zero_le _, rfl, by omega, HFX.out⟩
     case round =>
      obtain ⟨k, hq2, hk2, rfl, hd2, hF2⟩ := hrel
      have HQ2 := Lib.hid hq2
      have FW := Lib.hid hF2
      have HD2 := Lib.hid hd2
      have k4 : (0 : Int) ≤ (k : Int) := by omega
      clear hq2 hF2 hd2
      by_cases hlt2 : k < rows.length
      ·have k5 : (k : Int) < (rows.length : Int) := by omega
       obtain ⟨y, hy⟩ : ∃ y, rows[k]? = some y := ⟨_, List.getElem?_eq_getElem hlt2⟩
       obtain ⟨b', o', ya, yc, e9, cy, hry⟩ := HAT.out wr FW.out k y hy
       obtain ⟨rfl, rfl⟩ : b = b' ∧ o = o' := by simpa using e9
       obtain ⟨b'', o'', xa, xc, e8, cx, hrx⟩ := HAT.out wr FW.out i x HX.out
       obtain ⟨rfl, rfl⟩ : b = b'' ∧ o = o'' := by simpa using e8
       have HY := Lib.hid hy
       have KEEP : Hid (∀ W, Frm [] wr W → W.cell? ⟨b, o + i, none⟩ = some (.slice xa x.length xc) ∧ W.cell? ⟨b, o + k, none⟩ = some (.slice ya y.length yc)) := Lib.hid fun W hf => ⟨hf.cell cx (by simp), hf.cell cy (by simp)⟩
       have HC2 : Hid (∀ W, Frm [] wr W → Calls Tryz.prog 81 #[.slice xa x.length xc, .slice ya y.length yc] W fun e w' => e = .returned (.bool (subI x y)) ∧ Frm [] W w') := Lib.hid fun W hf => refSubset_any W _ _ x y (hrx.nil hf) (hry.nil hf)
       clear hrx hry cx cy hy e9 e8
       go_upto_region 9 with fail
       go_cut [53] (fun s53 wx => ∃ bb : Bool, s53 = .bool bb ∧ (bb = true ↔ (i ≠ k ∧ subI x y = true)) ∧ Frm [] wr wx)
       case first =>
        by_cases hik : i = k
        ·have jd : ((i : Int) != (k : Int)) = false := by rw [hik]; simp
         go_wp2_with fail
         have f0 : Frm [] wr wr.drew := (Frm.refl [] wr).drew
         refine wp_region_held_drew (S := fun w' => w'.cell? ⟨b, o + i, none⟩ = some (.slice xa x.length xc) ∧ w'.cell? ⟨b, o + k, none⟩ = some (.slice ya y.length yc)) (by kernel_rfl) (KEEP.out _ f0) ?_
         intro hHeld
         refine qtk 0 (v := ?_) rfl (by kernel_rfl) (fun _ _ _ h => h) (by rfl) (by assumption) ?_ ?_
         rotate_left
         ·(intro w9 hS9; (try dsimp only at hS9); go_split_ands; go_simp; try with_reducible rfl)
         try simp only [Act.put, qgA, qgS, qg0, qsA, qs0, qsS]
         refine qtk 1 (v := ?_) rfl (by kernel_rfl) (fun _ _ _ h => h) (by rfl) (by assumption) ?_ ?_
         rotate_left
         ·(intro w9 hS9; (try dsimp only at hS9); go_split_ands; go_simp; try with_reducible rfl)
         try simp only [Act.put, qgA, qgS, qg0, qsA, qs0, qsS]
         refine qtk 2 (v := ?_) rfl (by kernel_rfl) (fun _ _ _ h => h) (by rfl) (by assumption) ?_ ?_
         rotate_left
         ·(intro w9 hS9; (try dsimp only at hS9); go_split_ands; go_simp; try with_reducible rfl)
         try simp only [Act.put, qgA, qgS, qg0, qsA, qs0, qsS]
         refine qtk 3 (v := ?_) rfl (by kernel_rfl) (fun _ _ _ h => h) (by rfl) (by assumption) ?_ ?_
         rotate_left
         ·(intro w9 hS9; (try dsimp only at hS9); go_split_ands; go_simp; try with_reducible rfl)
         try simp only [Act.put, qgA, qgS, qg0, qsA, qs0, qsS]
         refine qdr 4 rfl (by kernel_rfl) (fun _ _ _ h => h) (by rfl) (by assumption) ?_
         try simp only [Act.put, qgA, qgS, qg0, qsA, qs0, qsS]
         refine qdr 5 rfl (by kernel_rfl) (fun _ _ _ h => h) (by rfl) (by assumption) ?_
         try simp only [Act.put, qgA, qgS, qg0, qsA, qs0, qsS]
         refine qdr 6 rfl (by kernel_rfl) (fun _ _ _ h => h) (by rfl) (by assumption) ?_
         try simp only [Act.put, qgA, qgS, qg0, qsA, qs0, qsS]
         refine qdr 7 rfl (by kernel_rfl) (fun _ _ _ h => h) (by rfl) (by assumption) ?_
         try simp only [Act.put, qgA, qgS, qg0, qsA, qs0, qsS]
         refine qdr 8 rfl (by kernel_rfl) (fun _ _ _ h => h) (by rfl) (by assumption) ?_
         try simp only [Act.put, qgA, qgS, qg0, qsA, qs0, qsS]
         refine qdr 9 rfl (by kernel_rfl) (fun _ _ _ h => h) (by rfl) (by assumption) ?_
         try simp only [Act.put, qgA, qgS, qg0, qsA, qs0, qsS]
         refine qdr 10 rfl (by kernel_rfl) (fun _ _ _ h => h) (by rfl) (by assumption) ?_
         try simp only [Act.put, qgA, qgS, qg0, qsA, qs0, qsS]
         refine qdr 11 rfl (by kernel_rfl) (fun _ _ _ h => h) (by rfl) (by assumption) ?_
         try simp only [Act.put, qgA, qgS, qg0, qsA, qs0, qsS]
         refine qdr 12 rfl (by kernel_rfl) (fun _ _ _ h => h) (by rfl) (by assumption) ?_
         try simp only [Act.put, qgA, qgS, qg0, qsA, qs0, qsS]
         refine qtk 13 (v := ?_) rfl (by kernel_rfl) (fun _ _ _ h => h) (by rfl) (by assumption) ?_ ?_
         rotate_left
         ·(intro w9 hS9; (try dsimp only at hS9); go_split_ands; go_simp; try with_reducible rfl)
         try simp only [Act.put, qgA, qgS, qg0, qsA, qs0, qsS]
         refine wpAnyH_done (by kernel_rfl) ?_ _
         go_wp2_with fail
         go_meet
         exact ⟨_, rfl, by simp [hik], (Frm.refl [] wr).drew⟩
        ·have jd : ((i : Int) != (k : Int)) = true := by simp; omega
         go_wp2_with fail
         have f0 : Frm [] wr wr.drew := (Frm.refl [] wr).drew
         refine wp_region_held_drew (S := fun w' => w'.cell? ⟨b, o + i, none⟩ = some (.slice xa x.length xc) ∧ w'.cell? ⟨b, o + k, none⟩ = some (.slice ya y.length yc)) (by kernel_rfl) (KEEP.out _ f0) ?_
         intro hHeld
         refine qtk 0 (v := ?_) rfl (by kernel_rfl) (fun _ _ _ h => h) (by rfl) (by assumption) ?_ ?_
         rotate_left
         ·(intro w9 hS9; (try dsimp only at hS9); go_split_ands; go_simp; try with_reducible rfl)
         try simp only [Act.put, qgA, qgS, qg0, qsA, qs0, qsS]
         refine qtk 1 (v := ?_) rfl (by kernel_rfl) (fun _ _ _ h => h) (by rfl) (by assumption) ?_ ?_
         rotate_left
         ·(intro w9 hS9; (try dsimp only at hS9); go_split_ands; go_simp; try with_reducible rfl)
         try simp only [Act.put, qgA, qgS, qg0, qsA, qs0, qsS]
         refine qtk 2 (v := ?_) rfl (by kernel_rfl) (fun _ _ _ h => h) (by rfl) (by assumption) ?_ ?_
         rotate_left
         ·(intro w9 hS9; (try dsimp only at hS9); go_split_ands; go_simp; try with_reducible rfl)
         try simp only [Act.put, qgA, qgS, qg0, qsA, qs0, qsS]
         refine qtk 3 (v := ?_) rfl (by kernel_rfl) (fun _ _ _ h => h) (by rfl) (by assumption) ?_ ?_
         rotate_left
         ·(intro w9 hS9; (try dsimp only at hS9); go_split_ands; go_simp; try with_reducible rfl)
         try simp only [Act.put, qgA, qgS, qg0, qsA, qs0, qsS]
         refine qtk 4 (v := ?_) rfl (by kernel_rfl) (fun _ _ _ h => h) (by rfl) (by assumption) ?_ ?_
         rotate_left
         ·(intro w9 hS9; (try dsimp only at hS9); go_split_ands; go_simp; try with_reducible rfl)
         try simp only [Act.put, qgA, qgS, qg0, qsA, qs0, qsS]
         refine qtk 5 (v := ?_) rfl (by kernel_rfl) (fun _ _ _ h => h) (by rfl) (by assumption) ?_ ?_
         rotate_left
         ·(intro w9 hS9; (try dsimp only at hS9); go_split_ands; go_simp; try with_reducible rfl)
         try simp only [Act.put, qgA, qgS, qg0, qsA, qs0, qsS]
         refine qtk 6 (v := ?_) rfl (by kernel_rfl) (fun _ _ _ h => h) (by rfl) (by assumption) ?_ ?_
         rotate_left
         ·(intro w9 hS9; (try dsimp only at hS9); go_split_ands; go_simp; try with_reducible rfl)
         try simp only [Act.put, qgA, qgS, qg0, qsA, qs0, qsS]
         refine qtk 7 (v := ?_) rfl (by kernel_rfl) (fun _ _ _ h => h) (by rfl) (by assumption) ?_ ?_
         rotate_left
         ·(intro w9 hS9; (try dsimp only at hS9); go_split_ands; go_simp; try with_reducible rfl)
         try simp only [Act.put, qgA, qgS, qg0, qsA, qs0, qsS]
         refine qtk 8 (v := ?_) rfl (by kernel_rfl) (fun _ _ _ h => h) (by rfl) (by assumption) ?_ ?_
         rotate_left
         ·(intro w9 hS9; (try dsimp only at hS9); go_split_ands; go_simp; try with_reducible rfl)
         try simp only [Act.put, qgA, qgS, qg0, qsA, qs0, qsS]
         refine qtk 9 (v := ?_) rfl (by kernel_rfl) (fun _ _ _ h => h) (by rfl) (by assumption) ?_ ?_
         rotate_left
         ·(intro w9 hS9; (try dsimp only at hS9); go_split_ands; go_simp; try with_reducible rfl)
         try simp only [Act.put, qgA, qgS, qg0, qsA, qs0, qsS]
         refine qtk 10 (v := ?_) rfl (by kernel_rfl) (fun _ _ _ h => h) (by rfl) (by assumption) ?_ ?_
         rotate_left
         ·(intro w9 hS9; (try dsimp only at hS9); go_split_ands; go_simp; try with_reducible rfl)
         try simp only [Act.put, qgA, qgS, qg0, qsA, qs0, qsS]
         refine qtk 11 (v := ?_) rfl (by kernel_rfl) (fun _ _ _ h => h) (by rfl) (by assumption) ?_ ?_
         rotate_left
         ·(intro w9 hS9; (try dsimp only at hS9); go_split_ands; go_simp; try with_reducible rfl)
         try simp only [Act.put, qgA, qgS, qg0, qsA, qs0, qsS]
         refine wpAnyH_ready (rs := [12]) (by kernel_rfl) (by simp) ?_
         refine AllReadyH.cons rfl (fun K hK => ?_) AllReadyH.nil
         go_simp
         refine (HC2.out _ f0).mono ?_
         rintro e5 w5 ⟨rfl, hf5⟩
         have hy5 := f0.trans hf5 (by simp)
         refine hK.out _ _ ?_ (fun hHeld => ?_)
         ·exact KEEP.out _ hy5
         clear hK K
         try simp only [Act.put, qgA, qgS, qg0, qsA, qs0, qsS]
         refine qtk 13 (v := ?_) rfl (by kernel_rfl) (fun _ _ _ h => h) (by rfl) (by assumption) ?_ ?_
         rotate_left
         ·(intro w9 hS9; (try dsimp only at hS9); go_split_ands; go_simp; try with_reducible rfl)
         try simp only [Act.put, qgA, qgS, qg0, qsA, qs0, qsS]
         refine wpAnyH_done (by kernel_rfl) ?_ _
         go_wp2_with fail
         go_meet
         exact ⟨_, rfl, by simp [hik], hy5⟩
       case rest =>
        obtain ⟨bb, rfl, hb, hFX⟩ := hcut
        have HB := Lib.hid hb
        have FX := Lib.hid hFX
        clear hb hFX
        cases bb with
        | true =>
         have HN : Hid (antiB rows = false) := Lib.hid (antiB_no (fun ha => by
          obtain ⟨h1, h2⟩ := HB.out.1 rfl
          rw [ha.at_ h1 HX.out HY.out] at h2
          cases h2))
         clear HB
         go_wp2_with fail
         go_ret
         exact ⟨by rw [HN.out]; rfl, FW.out.trans FX.out (by simp)⟩
        | false =>
         go_wp2_with fail
         go_roundg (rows.length - (k + 1))
         case rel =>
          refine ⟨k + 1, rfl, by omega, by go_num, fun b9 y9 hb9 hne9 hy9 => ?_, FW.out.trans FX.out (by simp)⟩
          by_cases hb : b9 = k
          ·subst hb
           have e9 := HY.out.symm.trans hy9
           cases e9
           cases hs : subI x y with
           | true => have := HB.out.2 ⟨hne9, hs⟩; cases this
           | false => rfl
          ·exact HD2.out b9 y9 (by omega) hne9 hy9
         case measure => have := HQ2.out; omega
      ·have k5 : ¬ (k : Int) < (rows.length : Int) := by omega
       have HN := Lib.hid (HD.out.next HX.out HR1.out HADJ.out (fun b9 y9 hne9 hy9 => HD2.out b9 y9 (by have := (List.getElem?_eq_some_iff.1 hy9).1; omega) hne9 hy9))
       go_wp2_with fail
       go_roundg (rows.length - (i + 1))
       case rel => exact ⟨i + 1, rfl, by omega, by go_num, HN.out, FW.out⟩
       case measure => have := HQ.out; omega
  ·have i5 : ¬ (i : Int) < (rows.length : Int) := by omega
   have HA : Hid (antiB rows = true) := Lib.hid (antiB_iff.2 (anti_of_to (by have := HD.out; rwa [show i = rows.length by omega] at this)))
   go_wp2_with fail
   go_ret
   exact ⟨by rw [HA.out]; rfl, HF.out⟩
end Go.Proofs.YtikpcipkkhmcfaaGreat.Beh
