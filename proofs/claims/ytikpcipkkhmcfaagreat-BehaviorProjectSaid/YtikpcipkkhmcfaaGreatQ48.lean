/- Texts FH, FN. -/
import Derived.Test.YtikpcipkkhmcfaaGreatQ00
import Derived.Test.YtikpcipkkhmcfaaGreatQ46
import Derived.Test.YtikpcipkkhmcfaaGreatQ35
import Derived.Test.YtikpcipkkhmcfaaGreatQ47
import Derived.Deep.DeepCutAuto
import Derived.Test.YtikpcipkkhmcfaaGreatQ15
import Derived.Test.YtikpcipkkhmcfaaGreatQ08
/- behavior.Valid: whether a list is a behavior. -/
namespace Go.Proofs.YtikpcipkkhmcfaaGreat.Beh
open Go.Shelf Go.RowKit Go.Lib Go.Sort Go.Maps Go.Proofs.YtikpcipkkhmcfaaGreat Go.Proofs.YtikpcipkkhmcfaaGreat.Ind

noncomputable def vbB (b : List En) : Bool := @decide (VB b) (Classical.propDecidable _)
theorem vbB_iff {b : List En} : vbB b = true ↔ VB b := by unfold vbB; simp
theorem vbB_no {b : List En} (h : ¬ VB b) : vbB b = false := by
 cases hb : vbB b with
 | true => exact absurd (vbB_iff.1 hb) h
 | false => rfl
/-- What is known after the first i entries. -/
structure VbTo (b : List En) (i : Nat) : Prop where
 ent : ∀ a x, a < i → b[a]? = some x → EntOk x
 asc : ∀ a x y, a + 1 < i → b[a]? = some x → b[a + 1]? = some y → ltT x.1 y.1 = true
theorem vbTo_zero (b : List En) : VbTo b 0 := ⟨by omega, by omega⟩
theorem VbTo.next {b : List En} {i : Nat} {x : En} (h : VbTo b i) (hx : b[i]? = some x) (h1 : EntOk x) (h2 : ∀ p y, i = p + 1 → b[p]? = some y → ltT y.1 x.1 = true) : VbTo b (i + 1) := by
 refine ⟨fun a z ha hz => ?_, fun a z y ha hz hy => ?_⟩
 ·by_cases he : a = i
  ·subst he; rw [hx] at hz; cases hz; exact h1
  ·exact h.ent a z (by omega) hz
 ·by_cases he : a + 1 = i
  ·rw [he, hx] at hy; cases hy; exact h2 a z he.symm hz
  ·exact h.asc a z y (by omega) hz hy
theorem VbTo.pair {b : List En} (h : VbTo b b.length) : b.Pairwise fun x y => ltT x.1 y.1 = true := by
 have h9 : Asc ltT (b.map (·.1)) := asc_adj sto_T (fun a x y hx hy => by
  rw [List.getElem?_map, Option.map_eq_some_iff] at hx hy
  obtain ⟨p, hp, rfl⟩ := hx
  obtain ⟨q, hq, rfl⟩ := hy
  exact h.asc a p q (List.getElem?_eq_some_iff.1 hq).1 hp hq)
 exact List.pairwise_map.1 h9
theorem small_vis {l : List Int} (h : visB l = true) : Small l := fun e he => by
 have := visB_iff.1 h e he
 omega
theorem trOk_of {b : List En} (h : b.Pairwise fun x y => ltT x.1 y.1 = true) (he : ∀ x ∈ b, EntOk x) : TrOk b := by
 refine ⟨?_, fun x hx => small_vis (he x hx).vis, fun x hx => by have := (he x hx).short; omega⟩
 rw [List.Nodup, List.pairwise_map]
 refine h.imp (fun {x y} hxy e => ?_)
 rw [e] at hxy
 have := sto_T.irr y.1
 rw [hxy] at this
 cases this
theorem VbTo.all {b : List En} (h : VbTo b b.length) : ∀ x ∈ b, EntOk x := fun x hx => by
 obtain ⟨a, ha⟩ := List.getElem?_of_mem hx
 exact h.ent a x (List.getElem?_eq_some_iff.1 ha).1 ha
theorem VbTo.tr {b : List En} (h : VbTo b b.length) : TrOk b := trOk_of h.pair h.all
theorem VB.tr {b : List En} (h : VB b) : TrOk b := trOk_of h.pair h.ent
theorem VbTo.vb {b : List En} (h : VbTo b b.length) (h0 : ∃ p, b[0]? = some p ∧ p.1 = []) (hp : ∀ x ∈ b, x.1 ≠ [] → ∃ y ∈ b, y.1 = x.1.dropLast) : VB b :=
 ⟨h0, h.all, fun i x y hx hy => h.asc i x y (List.getElem?_eq_some_iff.1 hy).1 hx hy, hp⟩
theorem VbTo.later {b : List En} (h : VbTo b b.length) {j : Nat} {x : En} (hx : b[j + 1]? = some x) : x.1 ≠ [] := fun e => by
 have hj := (List.getElem?_eq_some_iff.1 hx).1
 have h9 := h.asc j _ x hj (List.getElem?_eq_getElem (by omega)) hx
 rw [e] at h9
 exact ltT_nil h9
theorem row_drop {w : World} {F : List Nat} {a : Option Addr} {c : Nat} {x : List Int} (h : RowV w F (.slice a x.length c) x.length 1 (ints x)) (hx : x ≠ []) : RowV w F (.slice a (x.length - 1) c) x.dropLast.length 1 (ints x.dropLast) := by
 have hpos := List.length_pos_iff.2 hx
 have hsh := h
 obtain ⟨_, a', c', e, h2, _, hn, _⟩ := hsh
 obtain ⟨rfl, rfl⟩ : a = a' ∧ c = c' := by simpa using e
 cases a with
 | none => have := hn rfl; omega
 | some p =>
  have h9 := h.init (k := x.length - 1) (by omega)
  rw [Nat.mul_one] at h9
  have e1 : (ints x).take (x.length - 1) = ints x.dropLast := by rw [List.dropLast_eq_take, ints, ints, List.map_take]
  rw [e1] at h9
  rw [List.length_dropLast]
  exact h9
set_option linter.unusedSimpArgs false in
set_option maxRecDepth 100000 in
set_option maxHeartbeats 8000000 in
theorem validB_any {F : List Nat} (w : World) (v : Value) (b : List En) (h : BehAt w F v b) (hfit : Fits b) :
  Calls Tryz.prog 22 #[v] w fun e w' => e = .returned (.bool (vbB b)) ∧ Frm [] w w' := by
 have l1 := beh_few h
 obtain ⟨va, vc, rfl⟩ := h.shape
 by_cases hb0 : b.length = 0
 ·have HN : Hid (vbB b = false) := Lib.hid (vbB_no (fun hv => by
   obtain ⟨p, hp, _⟩ := hv.head
   have := (List.getElem?_eq_some_iff.1 hp).1
   omega))
  have i0 : ((b.length : Int) == 0) = true := by rw [beq_iff_eq]; omega
  clear h hb0
  go_enter Tryz.func22, Tryz.ntmps22
  go_wp2_with fail
  go_ret
  exact ⟨by rw [HN.out]; rfl, Frm.refl _ _⟩
 have HFIT := Lib.hid hfit
 have HAT : Hid (∀ W, Frm [] w W → ∀ (i : Nat) (x : En), b[i]? = some x → ∃ b1 o1 ta tc la lc, va = some ⟨b1, o1, none⟩ ∧ W.cell? ⟨b1, o1 + i * 3, none⟩ = some (.slice ta x.1.length tc) ∧ W.cell? ⟨b1, o1 + i * 3 + 1, none⟩ = some (.slice la x.2.1.length lc) ∧ W.cell? ⟨b1, o1 + i * 3 + 2, none⟩ = some (.bool x.2.2) ∧ RowV W F (.slice ta x.1.length tc) x.1.length 1 (ints x.1) ∧ SetsAt W F (.slice la x.2.1.length lc) x.2.1) := Lib.hid fun W hf i x hx => by
  obtain ⟨b1, o1, d1, ta, tc, la, lc, e1, x0, x1, x2, xt, xl⟩ := h.at_ hx
  obtain ⟨rfl, rfl⟩ : va = some ⟨b1, o1, none⟩ ∧ vc = d1 := by simpa using e1
  exact ⟨b1, o1, ta, tc, la, lc, rfl, hf.cell x0 (by simp), by rw [Nat.add_assoc]; exact hf.cell x1 (by simp), by rw [Nat.add_assoc]; exact hf.cell x2 (by simp), xt.nil hf, xl.nil hf⟩
 have H := Lib.hid h
 have hcap : b.length ≤ vc := by
  obtain ⟨_, _, h2, _⟩ := h
  obtain ⟨_, a', c', e', hle, _⟩ := h2
  obtain ⟨rfl, rfl⟩ : va = a' ∧ vc = c' := by simpa using e'
  exact hle
 have hcap2 : (vc : Int) ≤ 9223372036854775807 := by
  obtain ⟨_, _, h2, _⟩ := h
  obtain ⟨_, a', c', e', _, hle, _⟩ := h2
  obtain ⟨rfl, rfl⟩ : va = a' ∧ vc = c' := by simpa using e'
  unfold maxLen at hle
  omega
 have i0 : ((b.length : Int) == 0) = false := beq_eq_false_iff_ne.2 (by omega)
 have i00 : (0 : Int) < (b.length : Int) := by omega
 obtain ⟨y0, hy0⟩ : ∃ y, b[0]? = some y := ⟨_, List.getElem?_eq_getElem (by omega)⟩
 obtain ⟨b1, o1, ta0, tc0, _, _, rfl, z0, _, _, zt, _⟩ := HAT.out w (Frm.refl _ _) 0 y0 hy0
 rw [Nat.zero_mul, Nat.add_zero] at z0
 have lz := zt.rd.lt
 have HY0 := Lib.hid hy0
 clear h hfit zt hy0
 by_cases ht0 : 0 < y0.1.length
 ·have i1 : (0 : Int) < (y0.1.length : Int) := by omega
  have HN : Hid (vbB b = false) := Lib.hid (vbB_no (fun hv => by
   obtain ⟨p, hp, h9⟩ := hv.head
   rw [HY0.out] at hp
   cases hp
   rw [h9] at ht0
   simp at ht0))
  clear ht0
  go_enter Tryz.func22, Tryz.ntmps22
  go_wp2_with fail
  go_ret
  exact ⟨by rw [HN.out]; rfl, Frm.refl _ _⟩
 have i1 : ¬ (0 : Int) < (y0.1.length : Int) := by omega
 have HH : Hid (∃ p, b[0]? = some p ∧ p.1 = []) := Lib.hid ⟨y0, HY0.out, List.eq_nil_of_length_eq_zero (by omega)⟩
 clear ht0 HY0
 go_enter Tryz.func22, Tryz.ntmps22
 go_wp2_with fail
 clear z0 i1 lz
 go_loopg [23] b.length (fun q t23 wr => ∃ (i : Nat), q = b.length - i ∧ i ≤ b.length ∧ t23 = .int .i64 i ∧ VbTo b i ∧ Frm [] w wr)
 case atStart => exact ⟨0, rfl, Nat.zero_le _, rfl, vbTo_zero _, Frm.refl _ _⟩
 case round =>
  obtain ⟨i, hq, hi, rfl, hd, hF⟩ := hrel
  have HQ := Lib.hid hq
  have HF := Lib.hid hF
  have HD := Lib.hid hd
  have i4 : (0 : Int) ≤ (i : Int) := by omega
  clear hq hF hd
  by_cases hlt : i < b.length
  ·have i5 : (i : Int) < (b.length : Int) := by omega
   obtain ⟨x, hx⟩ : ∃ x, b[i]? = some x := ⟨_, List.getElem?_eq_getElem hlt⟩
   obtain ⟨b', o', ta, tc, la, lc, e9, x0, x1, x2, xt, xl⟩ := HAT.out wr HF.out i x hx
   obtain ⟨rfl, rfl⟩ : b1 = b' ∧ o1 = o' := by simpa using e9
   have hxf := HFIT.out x (List.mem_of_getElem? hx)
   have HX := Lib.hid hx
   have hbox := RowAt.made wr 69 [.slice ta x.1.length tc, .slice la x.2.1.length lc, .bool x.2.2] #[.slice ta x.1.length tc, .slice la x.2.1.length lc, .bool x.2.2] rfl
   have F1 : Frm [] wr (wr.alloc (.cells #[.slice ta x.1.length tc, .slice la x.2.1.length lc, .bool x.2.2] 69)) := (Frm.refl [] wr).alloc _
   go_upto_region 6 with fail
   generalize hw1 : wr.alloc (.cells #[.slice ta x.1.length tc, .slice la x.2.1.length lc, .bool x.2.2] 69) = w1 at *
   generalize hg1 : wr.heap.size = g1 at *
   have HBX : Hid (∀ W, Frm [] w1 W → W.cell? ⟨g1, 0, none⟩ = some (.slice ta x.1.length tc) ∧ W.cell? ⟨g1, 1, none⟩ = some (.slice la x.2.1.length lc) ∧ W.cell? ⟨g1, 2, none⟩ = some (.bool x.2.2)) := Lib.hid fun W hf => by
    have r9 := hbox.frm hf (by simp)
    exact ⟨r9.cell (i := 0) rfl, r9.cell (i := 1) rfl, r9.cell (i := 2) rfl⟩
   have HFW : Hid (Frm [] w w1) := Lib.hid (HF.out.trans F1 (by simp))
   have HVE : Hid (∀ W, Frm [] w1 W → Calls Tryz.prog 45 #[.agg #[.slice ta x.1.length tc, .slice la x.2.1.length lc, .bool x.2.2]] W fun e w' => e = .returned (.bool (entB x)) ∧ Frm [] W w') := Lib.hid fun W hf => validEntry_any W x ta la tc lc (xt.nil (F1.trans hf (by simp))) (xl.nil (F1.trans hf (by simp))) hxf.2.1 hxf.2.2
   have XT : Hid (∀ W, Frm [] w1 W → RowV W F (.slice ta x.1.length tc) x.1.length 1 (ints x.1)) := Lib.hid fun W hf => xt.nil (F1.trans hf (by simp))
   clear x0 x1 x2 xt xl e9 hx hbox F1 hw1 hg1 hxf
   go_cut [46] (fun s46 wx => ∃ bb : Bool, s46 = .bool bb ∧ (bb = true → ¬ VB b) ∧ (bb = false → EntOk x ∧ ∀ p y, i = p + 1 → b[p]? = some y → ltT y.1 x.1 = true) ∧ Frm [] w1 wx)
   case first =>
    cases hr1 : entB x with
    | false =>
     have HR1 := Lib.hid hr1
     have HC0 := HVE
     rw [hr1] at HC0
     clear hr1 HVE
     go_wp2_with fail
     have f0 : Frm [] w1 w1.drew := (Frm.refl [] w1).drew
     refine wp_region_held_drew (S := fun w' => w'.cell? ⟨g1, 0, none⟩ = some (.slice ta x.1.length tc) ∧ w'.cell? ⟨g1, 1, none⟩ = some (.slice la x.2.1.length lc) ∧ w'.cell? ⟨g1, 2, none⟩ = some (.bool x.2.2)) (by kernel_rfl) (HBX.out _ f0) ?_
     intro hHeld
     refine qtk 0 (v := ?_) rfl (by kernel_rfl) (fun _ _ _ h => h) (by rfl) (by assumption) ?_ ?_
     rotate_left
     ·(intro w9 hS9; (try dsimp only at hS9); go_split_ands; go_simp; try with_reducible rfl)
     try simp only [Act.put, qgA, qgS, qg0, qsA, qs0, qsS]
     refine wpAnyH_ready (rs := [1]) (by kernel_rfl) (by simp) ?_
     refine AllReadyH.cons rfl (fun K hK => ?_) AllReadyH.nil
     go_simp
     refine (HC0.out _ f0).mono ?_
     rintro e5 w5 ⟨rfl, hf5⟩
     have hy5 := f0.trans hf5 (by simp)
     refine hK.out _ _ ?_ (fun hHeld => ?_)
     ·exact HBX.out _ hy5
     clear hK K
     try simp only [Act.put, qgA, qgS, qg0, qsA, qs0, qsS]
     refine qtk 2 (v := ?_) rfl (by kernel_rfl) (fun _ _ _ h => h) (by rfl) (by assumption) ?_ ?_
     rotate_left
     ·(intro w9 hS9; (try dsimp only at hS9); go_split_ands; go_simp; try with_reducible rfl)
     try simp only [Act.put, qgA, qgS, qg0, qsA, qs0, qsS]
     refine qtk 3 (v := ?_) rfl (by kernel_rfl) (fun _ _ _ h => h) (by rfl) (by assumption) ?_ ?_
     rotate_left
     ·(intro w9 hS9; (try dsimp only at hS9); go_split_ands; go_simp; try with_reducible rfl)
     try simp only [Act.put, qgA, qgS, qg0, qsA, qs0, qsS]
     refine qdr 4 rfl (by kernel_rfl) (fun _ _ _ h => h) (by rfl) (by assumption) ?_
     try simp only [Act.put, qgA, qgS, qg0, qsA, qs0, qsS]
     refine qdr 5 rfl (by kernel_rfl) (fun _ _ _ h => h) (by rfl) (by assumption) ?_
     try simp only [Act.put, qgA, qgS, qg0, qsA, qs0, qsS]
     refine qdr 6 rfl (by kernel_rfl) (fun _ _ _ h => h) (by rfl) (by assumption) ?_
     try simp only [Act.put, qgA, qgS, qg0, qsA, qs0, qsS]
     refine qdr 7 rfl (by kernel_rfl) (fun _ _ _ h => h) (by rfl) (by assumption) ?_
     try simp only [Act.put, qgA, qgS, qg0, qsA, qs0, qsS]
     refine qdr 8 rfl (by kernel_rfl) (fun _ _ _ h => h) (by rfl) (by assumption) ?_
     try simp only [Act.put, qgA, qgS, qg0, qsA, qs0, qsS]
     refine qdr 9 rfl (by kernel_rfl) (fun _ _ _ h => h) (by rfl) (by assumption) ?_
     try simp only [Act.put, qgA, qgS, qg0, qsA, qs0, qsS]
     refine qdr 10 rfl (by kernel_rfl) (fun _ _ _ h => h) (by rfl) (by assumption) ?_
     try simp only [Act.put, qgA, qgS, qg0, qsA, qs0, qsS]
     refine qdr 11 rfl (by kernel_rfl) (fun _ _ _ h => h) (by rfl) (by assumption) ?_
     try simp only [Act.put, qgA, qgS, qg0, qsA, qs0, qsS]
     refine qdr 12 rfl (by kernel_rfl) (fun _ _ _ h => h) (by rfl) (by assumption) ?_
     try simp only [Act.put, qgA, qgS, qg0, qsA, qs0, qsS]
     refine qdr 13 rfl (by kernel_rfl) (fun _ _ _ h => h) (by rfl) (by assumption) ?_
     try simp only [Act.put, qgA, qgS, qg0, qsA, qs0, qsS]
     refine qdr 14 rfl (by kernel_rfl) (fun _ _ _ h => h) (by rfl) (by assumption) ?_
     try simp only [Act.put, qgA, qgS, qg0, qsA, qs0, qsS]
     refine qdr 15 rfl (by kernel_rfl) (fun _ _ _ h => h) (by rfl) (by assumption) ?_
     try simp only [Act.put, qgA, qgS, qg0, qsA, qs0, qsS]
     refine qdr 16 rfl (by kernel_rfl) (fun _ _ _ h => h) (by rfl) (by assumption) ?_
     try simp only [Act.put, qgA, qgS, qg0, qsA, qs0, qsS]
     refine qdr 17 rfl (by kernel_rfl) (fun _ _ _ h => h) (by rfl) (by assumption) ?_
     try simp only [Act.put, qgA, qgS, qg0, qsA, qs0, qsS]
     refine qtk 18 (v := ?_) rfl (by kernel_rfl) (fun _ _ _ h => h) (by rfl) (by assumption) ?_ ?_
     rotate_left
     ·(intro w9 hS9; (try dsimp only at hS9); go_split_ands; go_simp; try with_reducible rfl)
     try simp only [Act.put, qgA, qgS, qg0, qsA, qs0, qsS]
     refine wpAnyH_done (by kernel_rfl) ?_ _
     go_wp2_with fail
     go_meet
     exact ⟨_, rfl, (fun _ hv => by have h9 := entB_iff.2 (hv.ent x (List.mem_of_getElem? HX.out)); rw [HR1.out] at h9; cases h9), (by simp), hy5⟩
    | true =>
     have HR1 := Lib.hid (entB_iff.1 hr1)
     have HC0 := HVE
     rw [hr1] at HC0
     clear hr1 HVE
     rcases (show i = 0 ∨ ∃ p, i = p + 1 by cases i; exact .inl rfl; exact .inr ⟨_, rfl⟩) with hi0 | ⟨p, hip⟩
     ·have j0 : ¬ (0 : Int) < (i : Int) := by omega
      have j0n : ¬ 0 < i := by omega
      have HI0 := Lib.hid hi0
      clear hi0
      go_wp2_with fail
      have f0 : Frm [] w1 w1.drew := (Frm.refl [] w1).drew
      refine wp_region_held_drew (S := fun w' => w'.cell? ⟨g1, 0, none⟩ = some (.slice ta x.1.length tc) ∧ w'.cell? ⟨g1, 1, none⟩ = some (.slice la x.2.1.length lc) ∧ w'.cell? ⟨g1, 2, none⟩ = some (.bool x.2.2)) (by kernel_rfl) (HBX.out _ f0) ?_
      intro hHeld
      refine qtk 0 (v := ?_) rfl (by kernel_rfl) (fun _ _ _ h => h) (by rfl) (by assumption) ?_ ?_
      rotate_left
      ·(intro w9 hS9; (try dsimp only at hS9); go_split_ands; go_simp; try with_reducible rfl)
      try simp only [Act.put, qgA, qgS, qg0, qsA, qs0, qsS]
      refine wpAnyH_ready (rs := [1]) (by kernel_rfl) (by simp) ?_
      refine AllReadyH.cons rfl (fun K hK => ?_) AllReadyH.nil
      go_simp
      refine (HC0.out _ f0).mono ?_
      rintro e5 w5 ⟨rfl, hf5⟩
      have hy5 := f0.trans hf5 (by simp)
      refine hK.out _ _ ?_ (fun hHeld => ?_)
      ·exact HBX.out _ hy5
      clear hK K
      try simp only [Act.put, qgA, qgS, qg0, qsA, qs0, qsS]
      refine qtk 2 (v := ?_) rfl (by kernel_rfl) (fun _ _ _ h => h) (by rfl) (by assumption) ?_ ?_
      rotate_left
      ·(intro w9 hS9; (try dsimp only at hS9); go_split_ands; go_simp; try with_reducible rfl)
      try simp only [Act.put, qgA, qgS, qg0, qsA, qs0, qsS]
      refine qtk 3 (v := ?_) rfl (by kernel_rfl) (fun _ _ _ h => h) (by rfl) (by assumption) ?_ ?_
      rotate_left
      ·(intro w9 hS9; (try dsimp only at hS9); go_split_ands; go_simp; try with_reducible rfl)
      try simp only [Act.put, qgA, qgS, qg0, qsA, qs0, qsS]
      refine qtk 4 (v := ?_) rfl (by kernel_rfl) (fun _ _ _ h => h) (by rfl) (by assumption) ?_ ?_
      rotate_left
      ·(intro w9 hS9; (try dsimp only at hS9); go_split_ands; go_simp; try with_reducible rfl)
      try simp only [Act.put, qgA, qgS, qg0, qsA, qs0, qsS]
      refine qtk 5 (v := ?_) rfl (by kernel_rfl) (fun _ _ _ h => h) (by rfl) (by assumption) ?_ ?_
      rotate_left
      ·(intro w9 hS9; (try dsimp only at hS9); go_split_ands; go_simp; try with_reducible rfl)
      try simp only [Act.put, qgA, qgS, qg0, qsA, qs0, qsS]
      refine qtk 6 (v := ?_) rfl (by kernel_rfl) (fun _ _ _ h => h) (by rfl) (by assumption) ?_ ?_
      rotate_left
      ·(intro w9 hS9; (try dsimp only at hS9); go_split_ands; go_simp; try with_reducible rfl)
      try simp only [Act.put, qgA, qgS, qg0, qsA, qs0, qsS]
      refine qdr 7 rfl (by kernel_rfl) (fun _ _ _ h => h) (by rfl) (by assumption) ?_
      try simp only [Act.put, qgA, qgS, qg0, qsA, qs0, qsS]
      refine qdr 8 rfl (by kernel_rfl) (fun _ _ _ h => h) (by rfl) (by assumption) ?_
      try simp only [Act.put, qgA, qgS, qg0, qsA, qs0, qsS]
      refine qdr 9 rfl (by kernel_rfl) (fun _ _ _ h => h) (by rfl) (by assumption) ?_
      try simp only [Act.put, qgA, qgS, qg0, qsA, qs0, qsS]
      refine qdr 10 rfl (by kernel_rfl) (fun _ _ _ h => h) (by rfl) (by assumption) ?_
      try simp only [Act.put, qgA, qgS, qg0, qsA, qs0, qsS]
      refine qdr 11 rfl (by kernel_rfl) (fun _ _ _ h => h) (by rfl) (by assumption) ?_
      try simp only [Act.put, qgA, qgS, qg0, qsA, qs0, qsS]
      refine qdr 12 rfl (by kernel_rfl) (fun _ _ _ h => h) (by rfl) (by assumption) ?_
      try simp only [Act.put, qgA, qgS, qg0, qsA, qs0, qsS]
      refine qdr 13 rfl (by kernel_rfl) (fun _ _ _ h => h) (by rfl) (by assumption) ?_
      try simp only [Act.put, qgA, qgS, qg0, qsA, qs0, qsS]
      refine qdr 14 rfl (by kernel_rfl) (fun _ _ _ h => h) (by rfl) (by assumption) ?_
      try simp only [Act.put, qgA, qgS, qg0, qsA, qs0, qsS]
      refine qdr 15 rfl (by kernel_rfl) (fun _ _ _ h => h) (by rfl) (by assumption) ?_
      try simp only [Act.put, qgA, qgS, qg0, qsA, qs0, qsS]
      refine qdr 16 rfl (by kernel_rfl) (fun _ _ _ h => h) (by rfl) (by assumption) ?_
      try simp only [Act.put, qgA, qgS, qg0, qsA, qs0, qsS]
      refine qtk 17 (v := ?_) rfl (by kernel_rfl) (fun _ _ _ h => h) (by rfl) (by assumption) ?_ ?_
      rotate_left
      ·(intro w9 hS9; (try dsimp only at hS9); go_split_ands; go_simp; try with_reducible rfl)
      try simp only [Act.put, qgA, qgS, qg0, qsA, qs0, qsS]
      refine qtk 18 (v := ?_) rfl (by kernel_rfl) (fun _ _ _ h => h) (by rfl) (by assumption) ?_ ?_
      rotate_left
      ·(intro w9 hS9; (try dsimp only at hS9); go_split_ands; go_simp; try with_reducible rfl)
      try simp only [Act.put, qgA, qgS, qg0, qsA, qs0, qsS]
      refine wpAnyH_done (by kernel_rfl) ?_ _
      go_wp2_with fail
      go_meet
      exact ⟨_, rfl, (by simp), (fun _ => ⟨HR1.out, fun p9 y9 h9 => by have := HI0.out; omega⟩), hy5⟩
     ·obtain ⟨y, hy⟩ : ∃ y, b[p]? = some y := ⟨_, List.getElem?_eq_getElem (by omega)⟩
      obtain ⟨b', o', ya, yc, _, _, e9, c0, _, _, yt, _⟩ := HAT.out w1 HFW.out p y hy
      obtain ⟨rfl, rfl⟩ : b1 = b' ∧ o1 = o' := by simpa using e9
      have j1 : (0 : Int) < (i : Int) := by omega
      have j1n : 0 < i := by omega
      have j2 : IntKind.i64.wrap ((i : Int) - 1) = (p : Int) := by rw [IntWalk.i64_in _ (by omega)]; omega
      have j3 : (0 : Int) ≤ (p : Int) := by omega
      have j6 : (p : Int) < (b.length : Int) := by omega
      have HYY := Lib.hid hy
      have HIP := Lib.hid hip
      have KEEP : Hid (∀ W, Frm [] w1 W → W.cell? ⟨g1, 0, none⟩ = some (.slice ta x.1.length tc) ∧ W.cell? ⟨g1, 1, none⟩ = some (.slice la x.2.1.length lc) ∧ W.cell? ⟨g1, 2, none⟩ = some (.bool x.2.2) ∧ W.cell? ⟨b1, o1 + p * 3, none⟩ = some (.slice ya y.1.length yc)) := Lib.hid fun W hf => ⟨(HBX.out W hf).1, (HBX.out W hf).2.1, (HBX.out W hf).2.2, hf.cell c0 (by simp)⟩
      obtain ⟨C, hC⟩ : ∃ C, C = or2 (cmpI y.1.length x.1.length) (cmpL y.1 x.1) := ⟨_, rfl⟩
      have HCN : Hid (C < 0 ↔ ltT y.1 x.1 = true) := Lib.hid (by rw [hC]; exact cmpT_neg y.1 x.1)
      have HC1 : Hid (∀ W, Frm [] w1 W → Calls Tryz.prog 46 #[.slice ya y.1.length yc, .slice ta x.1.length tc] W fun e w' => e = .returned (.int .i64 C) ∧ Frm [] W w') := Lib.hid fun W hf => by
       rw [hC]
       exact compare_any W _ _ y.1 x.1 (yt.nil hf) (XT.out W hf)
      clear hip hy yt c0 e9 hC
      go_wp2_with fail
      have f0 : Frm [] w1 w1.drew := (Frm.refl [] w1).drew
      refine wp_region_held_drew (S := fun w' => w'.cell? ⟨g1, 0, none⟩ = some (.slice ta x.1.length tc) ∧ w'.cell? ⟨g1, 1, none⟩ = some (.slice la x.2.1.length lc) ∧ w'.cell? ⟨g1, 2, none⟩ = some (.bool x.2.2) ∧ w'.cell? ⟨b1, o1 + p * 3, none⟩ = some (.slice ya y.1.length yc)) (by kernel_rfl) (KEEP.out _ f0) ?_
      intro hHeld
      refine qtk 0 (v := ?_) rfl (by kernel_rfl) (fun _ _ _ h => h) (by rfl) (by assumption) ?_ ?_
      rotate_left
      ·(intro w9 hS9; (try dsimp only at hS9); go_split_ands; go_simp; try with_reducible rfl)
      try simp only [Act.put, qgA, qgS, qg0, qsA, qs0, qsS]
      refine wpAnyH_ready (rs := [1]) (by kernel_rfl) (by simp) ?_
      refine AllReadyH.cons rfl (fun K hK => ?_) AllReadyH.nil
      go_simp
      refine (HC0.out _ f0).mono ?_
      rintro e5 w5 ⟨rfl, hf5⟩
      have hy5 := f0.trans hf5 (by simp)
      refine hK.out _ _ ?_ (fun hHeld => ?_)
      ·exact KEEP.out _ hy5
      clear hK K
      try simp only [Act.put, qgA, qgS, qg0, qsA, qs0, qsS]
      refine qtk 2 (v := ?_) rfl (by kernel_rfl) (fun _ _ _ h => h) (by rfl) (by assumption) ?_ ?_
      rotate_left
      ·(intro w9 hS9; (try dsimp only at hS9); go_split_ands; go_simp; try with_reducible rfl)
      try simp only [Act.put, qgA, qgS, qg0, qsA, qs0, qsS]
      refine qtk 3 (v := ?_) rfl (by kernel_rfl) (fun _ _ _ h => h) (by rfl) (by assumption) ?_ ?_
      rotate_left
      ·(intro w9 hS9; (try dsimp only at hS9); go_split_ands; go_simp; try with_reducible rfl)
      try simp only [Act.put, qgA, qgS, qg0, qsA, qs0, qsS]
      refine qtk 4 (v := ?_) rfl (by kernel_rfl) (fun _ _ _ h => h) (by rfl) (by assumption) ?_ ?_
      rotate_left
      ·(intro w9 hS9; (try dsimp only at hS9); go_split_ands; go_simp; try with_reducible rfl)
      try simp only [Act.put, qgA, qgS, qg0, qsA, qs0, qsS]
      refine qtk 5 (v := ?_) rfl (by kernel_rfl) (fun _ _ _ h => h) (by rfl) (by assumption) ?_ ?_
      rotate_left
      ·(intro w9 hS9; (try dsimp only at hS9); go_split_ands; go_simp; try with_reducible rfl)
      try simp only [Act.put, qgA, qgS, qg0, qsA, qs0, qsS]
      refine qtk 6 (v := ?_) rfl (by kernel_rfl) (fun _ _ _ h => h) (by rfl) (by assumption) ?_ ?_
      rotate_left
      ·(intro w9 hS9; (try dsimp only at hS9); go_split_ands; go_simp; try with_reducible rfl)
      try simp only [Act.put, qgA, qgS, qg0, qsA, qs0, qsS]
      refine qtk 7 (v := ?_) rfl (by kernel_rfl) (fun _ _ _ h => h) (by rfl) (by assumption) ?_ ?_
      rotate_left
      ·(intro w9 hS9; (try dsimp only at hS9); go_split_ands; go_simp; try with_reducible rfl)
      try simp only [Act.put, qgA, qgS, qg0, qsA, qs0, qsS]
      refine qtk 8 (v := ?_) rfl (by kernel_rfl) (fun _ _ _ h => h) (by rfl) (by assumption) ?_ ?_
      rotate_left
      ·(intro w9 hS9; (try dsimp only at hS9); go_split_ands; go_simp; try with_reducible rfl)
      try simp only [Act.put, qgA, qgS, qg0, qsA, qs0, qsS]
      refine qtk 9 (v := ?_) rfl (by kernel_rfl) (fun _ _ _ h => h) (by rfl) (by assumption) ?_ ?_
      rotate_left
      ·(intro w9 hS9; (try dsimp only at hS9); go_split_ands; go_simp; try with_reducible rfl)
      try simp only [Act.put, qgA, qgS, qg0, qsA, qs0, qsS]
      refine qtk 10 (v := ?_) rfl (by kernel_rfl) (fun _ _ _ h => h) (by rfl) (by assumption) ?_ ?_
      rotate_left
      ·(intro w9 hS9; (try dsimp only at hS9); go_split_ands; go_simp; try with_reducible rfl)
      try simp only [Act.put, qgA, qgS, qg0, qsA, qs0, qsS]
      refine qtk 11 (v := ?_) rfl (by kernel_rfl) (fun _ _ _ h => h) (by rfl) (by assumption) ?_ ?_
      rotate_left
      ·(intro w9 hS9; (try dsimp only at hS9); go_split_ands; go_simp; try with_reducible rfl)
      try simp only [Act.put, qgA, qgS, qg0, qsA, qs0, qsS]
      refine qtk 12 (v := ?_) rfl (by kernel_rfl) (fun _ _ _ h => h) (by rfl) (by assumption) ?_ ?_
      rotate_left
      ·(intro w9 hS9; (try dsimp only at hS9); go_split_ands; go_simp; try with_reducible rfl)
      try simp only [Act.put, qgA, qgS, qg0, qsA, qs0, qsS]
      refine qtk 13 (v := ?_) rfl (by kernel_rfl) (fun _ _ _ h => h) (by rfl) (by assumption) ?_ ?_
      rotate_left
      ·(intro w9 hS9; (try dsimp only at hS9); go_split_ands; go_simp; try with_reducible rfl)
      try simp only [Act.put, qgA, qgS, qg0, qsA, qs0, qsS]
      refine qtk 14 (v := ?_) rfl (by kernel_rfl) (fun _ _ _ h => h) (by rfl) (by assumption) ?_ ?_
      rotate_left
      ·(intro w9 hS9; (try dsimp only at hS9); go_split_ands; go_simp; try with_reducible rfl)
      try simp only [Act.put, qgA, qgS, qg0, qsA, qs0, qsS]
      refine wpAnyH_ready (rs := [15]) (by kernel_rfl) (by simp) ?_
      refine AllReadyH.cons rfl (fun K hK => ?_) AllReadyH.nil
      go_simp
      refine (HC1.out _ hy5).mono ?_
      rintro e6 w6 ⟨rfl, hf6⟩
      have hy6 := hy5.trans hf6 (by simp)
      refine hK.out _ _ ?_ (fun hHeld => ?_)
      ·exact KEEP.out _ hy6
      clear hK K
      try simp only [Act.put, qgA, qgS, qg0, qsA, qs0, qsS]
      refine qtk 16 (v := ?_) rfl (by kernel_rfl) (fun _ _ _ h => h) (by rfl) (by assumption) ?_ ?_
      rotate_left
      ·(intro w9 hS9; (try dsimp only at hS9); go_split_ands; go_simp; try with_reducible rfl)
      try simp only [Act.put, qgA, qgS, qg0, qsA, qs0, qsS]
      refine qtk 17 (v := ?_) rfl (by kernel_rfl) (fun _ _ _ h => h) (by rfl) (by assumption) ?_ ?_
      rotate_left
      ·(intro w9 hS9; (try dsimp only at hS9); go_split_ands; go_simp; try with_reducible rfl)
      try simp only [Act.put, qgA, qgS, qg0, qsA, qs0, qsS]
      refine qtk 18 (v := ?_) rfl (by kernel_rfl) (fun _ _ _ h => h) (by rfl) (by assumption) ?_ ?_
      rotate_left
      ·(intro w9 hS9; (try dsimp only at hS9); go_split_ands; go_simp; try with_reducible rfl)
      try simp only [Act.put, qgA, qgS, qg0, qsA, qs0, qsS]
      refine wpAnyH_done (by kernel_rfl) ?_ _
      go_wp2_with fail
      go_meet
      refine ⟨_, rfl, fun e hv => ?_, fun e => ⟨HR1.out, fun p9 y9 hp9 hy9 => ?_⟩, hy6⟩
      ·have h9 := hv.asc p y x HYY.out (by rw [← HIP.out]; exact HX.out)
       have h8 := HCN.out.2 h9
       simp at e
       omega
      ·obtain rfl : p = p9 := by have := HIP.out; omega
       have e9 := HYY.out.symm.trans hy9
       cases e9
       refine HCN.out.1 ?_
       simp at e
       omega
   case rest =>
    obtain ⟨bb, rfl, hb1, hb2, hFX⟩ := hcut
    cases bb with
    | true =>
     have HN : Hid (vbB b = false) := Lib.hid (vbB_no (hb1 rfl))
     clear hb1 hb2
     go_wp2_with fail
     go_ret
     exact ⟨by rw [HN.out]; rfl, HFW.out.trans hFX (by simp)⟩
    | false =>
     obtain ⟨h5, h6⟩ := hb2 rfl
     have HN := Lib.hid (HD.out.next HX.out h5 h6)
     have HFX : Hid (Frm [] w wc) := Lib.hid (HFW.out.trans hFX (by simp))
     clear hb1 hb2 h5 h6 hFX
     go_wp2_with fail
     go_roundg (b.length - (i + 1))
     case rel => exact ⟨i + 1, rfl, by omega, by go_num, HN.out, HFX.out⟩
     case measure => have := HQ.out; omega
  ·have i5 : ¬ (i : Int) < (b.length : Int) := by omega
   have hto : VbTo b b.length := by have := HD.out; rwa [show i = b.length by omega] at this
   have HTO := Lib.hid hto
   have HIX := Lib.hid (index_any wr _ b (H.out.nil HF.out) hto.tr)
   clear hto
   by_cases hc1 : vc = 1
   ·have hb1 : b.length = 1 := by omega
    have HV : Hid (vbB b = true) := Lib.hid (vbB_iff.2 (HTO.out.vb HH.out (fun x hx hne => by
     obtain ⟨a, ha⟩ := List.getElem?_of_mem hx
     have h1 := (List.getElem?_eq_some_iff.1 ha).1
     obtain rfl : a = 0 := by omega
     obtain ⟨p, hp, h9⟩ := HH.out
     rw [ha] at hp
     cases hp
     exact absurd h9 hne)))
    have HB1 := Lib.hid hb1
    have jl : (b.length : Int) = 1 := by omega
    subst hc1
    clear hb1
    go_wp2_with (first | (go_at_call 47; refine HIX.out.mono ?_; rintro e5 w5 ⟨g, rfl, S5⟩) | fail)
    all_goals
     go_loopg [53] 0 (fun q t53 wr => t53 = .int .i64 ((0 : Nat) : Int) ∧ q = 0 ∧ w5 = wr)
     case atStart => exact ⟨rfl, rfl, rfl⟩
     case round =>
      obtain ⟨rfl, _, rfl⟩ := hrel
      go_wp2_with fail
      go_ret
      exact ⟨by rw [HV.out]; rfl, HF.out.trans S5.frm (by simp)⟩
   ·have hbl1 : 1 ≤ b.length := by omega
    have j7 : (1 : Int) ≤ (b.length : Int) := by omega
    have j8 : (1 : Int) < (vc : Int) := by omega
    have j9 : ((b.length - 1 : Nat) : Int) = (b.length : Int) - 1 := by omega
    clear HD
    go_wp2_with (first | (go_at_call 47; refine HIX.out.mono ?_; rintro e5 w5 ⟨g, rfl, S5⟩; have HS5 := Lib.hid S5; clear S5) | fail)
    obtain ⟨wx, hwx⟩ : ∃ wx, wx = wr := ⟨wr, rfl⟩
    rw [← hwx] at HF HS5
    clear hwx HIX
    go_loopg [53] (b.length - 1) (fun q t53 wr => ∃ (j : Nat), q = b.length - 1 - j ∧ j ≤ b.length - 1 ∧ t53 = .int .i64 j ∧ (∀ a x, a < j → b[a + 1]? = some x → ∃ y ∈ b, y.1 = x.1.dropLast) ∧ Sep wx wr [mapC g (idxK b)])
    case atStart => exact ⟨0, rfl, Nat.zero_le _, rfl, by omega, HS5.out⟩
    case round =>
     clear HS5 HQ
     obtain ⟨j, hq, hj, rfl, hd, hS⟩ := hrel
     have HQ := Lib.hid hq
     have S := Lib.hid hS
     have HD := Lib.hid hd
     have k4 : (0 : Int) ≤ (j : Int) := by omega
     clear hq hS hd
     by_cases hlt2 : j < b.length - 1
     ·have k5 : (j : Int) < ((b.length - 1 : Nat) : Int) := by omega
      have k6 : (j : Int) < (b.length : Int) - 1 := by omega
      obtain ⟨x, hx⟩ : ∃ x, b[j + 1]? = some x := ⟨_, List.getElem?_eq_getElem (by omega)⟩
      obtain ⟨b', o', ta, tc, la, lc, e9, x0, x1, x2, xt, xl⟩ := HAT.out wr (HF.out.trans S.out.frm (by simp)) (j + 1) x hx
      obtain ⟨rfl, rfl⟩ : b1 = b' ∧ o1 = o' := by simpa using e9
      rw [show o1 + (j + 1) * 3 = o1 + 3 + j * 3 by omega] at x0 x1 x2
      have hne := HTO.out.later hx
      have hok := HTO.out.all x (List.mem_of_getElem? hx)
      have hpos := List.length_pos_iff.2 hne
      have lx := xt.rd.lt
      have hxc : x.1.length ≤ tc := xt.rd.le
      have k7 : (1 : Int) ≤ (x.1.length : Int) := by omega
      have k8 : IntKind.i64.wrap ((x.1.length : Int) - 1) = ((x.1.length - 1 : Nat) : Int) := by rw [IntWalk.i64_in _ (by omega)]; omega
      have k9 : ((x.1.length - 1 : Nat) : Int) ≤ (tc : Int) := by omega
      have k10 : x.1.length - 1 ≤ tc := by omega
      have HDR := Lib.hid (row_drop xt hne)
      have HSM : Hid (Small x.1.dropLast) := Lib.hid (fun e he => small_vis hok.vis e (List.dropLast_subset _ he))
      have hdl : x.1.dropLast.length ≤ 100000 := by have := hok.short; rw [List.length_dropLast]; omega
      have S1 := Lib.hid (S.out.nil ((Frm.refl [] wr).alloc (.cells #[.slice ta x.1.length tc, .slice la x.2.1.length lc, .bool x.2.2] 69)))
      have HKN := Lib.hid HTO.out.tr.keys
      have HX := Lib.hid hx
      have HNE := Lib.hid hne
      by_cases hp : ∃ y ∈ b, y.1 = x.1.dropLast
      ·have hp9 := hp
       obtain ⟨y, hy, hy1⟩ := hp9
       obtain ⟨m, hm⟩ := List.getElem?_of_mem hy
       have hg := HTO.out.tr.look hm
       rw [hy1] at hg
       have HG := Lib.hid hg
       have HP := Lib.hid hp
       clear hp hy hy1 hm hg hx xt xl hne hok hpos e9
       go_wp2_with (first
        | (go_at_call 48; refine (key_any _ _ x.1.dropLast (HDR.out.nil ((Frm.refl [] wr).alloc _)) HSM.out hdl).mono ?_; rintro e6 w6 ⟨rfl, hf6⟩; have S6 := Lib.hid (S1.out.nil hf6); have SK := Lib.hid ((S6.out.at_ 0 rfl : KM strV w6 g (idxK b))); clear hf6)
        | (at_lookup; refine wpl_slook rfl _ _ 77 true rfl Tryz.underlying9 Tryz.underlying77 (Tryz.zeroValue3 _) g (idxK b) rfl SK.out HKN.out (keyS x.1.dropLast) rfl ?_; rw [HG.out])
        | fail)
       go_roundg (b.length - 1 - (j + 1))
       case rel => exact ⟨j + 1, rfl, by omega, by go_num, (fun a z ha hz => by
        by_cases he : a = j
        ·subst he
         have e8 := HX.out.symm.trans hz
         cases e8
         exact HP.out
        ·exact HD.out a z (by omega) hz), S6.out⟩
       case measure => have := HQ.out; omega
      ·have hg := HTO.out.tr.miss HSM.out (fun y hy e => hp ⟨y, hy, e⟩)
       have HG := Lib.hid hg
       have HN : Hid (vbB b = false) := Lib.hid (vbB_no (fun hv => hp (hv.pre x (List.mem_of_getElem? HX.out) HNE.out)))
       clear hp hg hx xt xl hne hok hpos e9
       go_wp2_with (first
        | (go_at_call 48; refine (key_any _ _ x.1.dropLast (HDR.out.nil ((Frm.refl [] wr).alloc _)) HSM.out hdl).mono ?_; rintro e6 w6 ⟨rfl, hf6⟩; have S6 := Lib.hid (S1.out.nil hf6); have SK := Lib.hid ((S6.out.at_ 0 rfl : KM strV w6 g (idxK b))); clear hf6)
        | (at_lookup; refine wpl_slook rfl _ _ 77 true rfl Tryz.underlying9 Tryz.underlying77 (Tryz.zeroValue3 _) g (idxK b) rfl SK.out HKN.out (keyS x.1.dropLast) rfl ?_; rw [HG.out])
        | fail)
       go_ret
       exact ⟨by rw [HN.out]; rfl, HF.out.trans S6.out.frm (by simp)⟩
     ·have k5 : ¬ (j : Int) < ((b.length - 1 : Nat) : Int) := by omega
      have k6 : ¬ (j : Int) < (b.length : Int) - 1 := by omega
      have HV : Hid (vbB b = true) := Lib.hid (vbB_iff.2 (HTO.out.vb HH.out (fun x hx hne => by
       obtain ⟨a, ha⟩ := List.getElem?_of_mem hx
       have h1 := (List.getElem?_eq_some_iff.1 ha).1
       cases a with
       | zero =>
        obtain ⟨p, hp, h9⟩ := HH.out
        rw [ha] at hp
        cases hp
        exact absurd h9 hne
       | succ a => exact HD.out a x (by omega) ha)))
      go_wp2_with fail
      go_ret
      exact ⟨by rw [HV.out]; rfl, HF.out.trans S.out.frm (by simp)⟩
end Go.Proofs.YtikpcipkkhmcfaaGreat.Beh

/- Contract of behavior.covered. -/
namespace Go.Proofs.YtikpcipkkhmcfaaGreat.Beh
open Go.Shelf Go.RowKit Go.Lib Go.Sort Go.Maps Go.Proofs.YtikpcipkkhmcfaaGreat Go.Proofs.YtikpcipkkhmcfaaGreat.Ind

/-- Whether entry i is covered. -/
def covF (b : List En) (i : Nat) : Bool := match b[i]? with | some x => beyondB b x.1 | none => false
theorem covF_at {b : List En} {i : Nat} {x : En} (h : b[i]? = some x) : covF b i = beyondB b x.1 := by unfold covF; rw [h]
/-- The entry before. -/
theorem VB.up {b : List En} (h : VB b) {i : Nat} {x : En} (hi : b[i]? = some x) (hne : x.1 ≠ []) : ∃ j y, j < i ∧ b[j]? = some y ∧ y.1 = x.1.dropLast ∧ beyondB b x.1 = (beyondB b y.1 || y.2.2) := by
 obtain ⟨y, hy, hy1⟩ := h.pre x (List.mem_of_getElem? hi) hne
 obtain ⟨j, hj⟩ := List.getElem?_of_mem hy
 have hx : x.1 = y.1 ++ [x.1.getLast hne] := by rw [hy1, List.dropLast_concat_getLast]
 have hlt : ltT y.1 x.1 = true := by rw [hx]; exact ltT_more _ _
 refine ⟨j, y, ?_, hj, hy1, ?_⟩
 ·rcases Nat.lt_trichotomy j i with h1 | h1 | h1
  ·exact h1
  ·subst h1
   rw [hi] at hj
   cases hj
   have := sto_T.irr x.1
   rw [hlt] at this
   cases this
  ·have h2 := h.lt h1 hi hj
   have h3 := sto_T.trans _ _ _ hlt h2
   rw [sto_T.irr] at h3
   cases h3
 ·rw [hx, beyond_snoc, h.find hj]
def CovEnd (w : World) (b : List En) (e : Ending) (w' : World) : Prop := e = .returned (.slice (some ⟨w.heap.size, 0, none⟩) b.length b.length) ∧ w'.ownsRow w.heap.size 4 1 (.slice (some ⟨w.heap.size, 0, none⟩) b.length b.length) b.length (bools ((List.range b.length).map (covF b))) ∧ Frm [] w w'
set_option linter.unusedSimpArgs false in
set_option maxRecDepth 100000 in
set_option maxHeartbeats 4000000 in
theorem covered_any {F : List Nat} (w : World) (v : Value) (b : List En) (tm : Nat) (h : BehAt w F v b) (hv : VB b) (hm : KM strV w tm (idxK b)) (hn : b.length ≤ 1000000) :
  Calls Tryz.prog 64 #[v, .map (some tm)] w (CovEnd w b) := by
 have l1 := beh_few h
 obtain ⟨va, vc, rfl⟩ := h.shape
 have H := Lib.hid h
 have HV := Lib.hid hv
 have HM := Lib.hid hm
 have HKN := Lib.hid hv.tr.keys
 have htm := hm.lt
 have hnn : (b.length : Int) ≤ 1000000 := by omega
 clear h hv hm
 go_enter Tryz.func64, Tryz.ntmps64
 go_wp2_with (first | (at_make; refine wpl_make_b _ rfl (.tmp 11) rfl _ b.length rfl rfl (by omega) ?_) | (at_make; fail))
 intro w1 hown1 hf1
 rw [← bsAt_zero b.length (covF b)] at hown1
 have HOWN1 := Lib.hid hown1
 have HF1 := Lib.hid hf1
 have hs1 := (hown1.lt w.heap.size rfl).2
 clear hown1 hf1
 go_wp2_with fail
 go_loopg [15] b.length (fun q t wr => ∃ (i : Nat), q = b.length - i ∧ i ≤ b.length ∧ t = .int .i64 (i : Int) ∧ wr.ownsRow w.heap.size 4 1 (.slice (some ⟨w.heap.size, 0, none⟩) b.length b.length) b.length (bools (bsAt b.length (covF b) i false)) ∧ Frm [] w wr)
 case atStart => exact ⟨0, rfl, Nat.zero_le _, rfl, HOWN1.out, HF1.out⟩
 case round =>
  clear HOWN1 HF1 hs1
  obtain ⟨i, hq, hi, rfl, hown, hF⟩ := hrel
  have HQ := Lib.hid hq
  have HF := Lib.hid hF
  have HOWN := Lib.hid hown
  have i4 : (0 : Int) ≤ (i : Int) := by omega
  have hgs := (hown.lt w.heap.size rfl).2
  clear hq hF hown
  by_cases hlt : i < b.length
  ·have i5 : (i : Int) < (b.length : Int) := by omega
   obtain ⟨x, hx⟩ : ∃ x, b[i]? = some x := ⟨_, List.getElem?_eq_getElem hlt⟩
   obtain ⟨b1, o1, d1, ta, tc, la, lc, e1, x0, x1, x2, xt, xl⟩ := H.out.at_ hx
   obtain ⟨rfl, rfl⟩ : va = some ⟨b1, o1, none⟩ ∧ vc = d1 := by simpa using e1
   have c0 := HF.out.cell x0 (by simp)
   have c1 : wr.cell? ⟨b1, o1 + i * 3 + 1, none⟩ = some (.slice la x.2.1.length lc) := by rw [Nat.add_assoc]; exact HF.out.cell x1 (by simp)
   have c2 : wr.cell? ⟨b1, o1 + i * 3 + 2, none⟩ = some (.bool x.2.2) := by rw [Nat.add_assoc]; exact HF.out.cell x2 (by simp)
   have HX := Lib.hid hx
   have hxok := HV.out.ent x (List.mem_of_getElem? hx)
   have lx := xt.rd.lt
   have hxc : x.1.length ≤ tc := xt.rd.le
   have HFB : Hid (Frm [] w (wr.alloc (.cells #[.slice ta x.1.length tc, .slice la x.2.1.length lc, .bool x.2.2] 69))) := Lib.hid (HF.out.alloc _)
   have HOB := Lib.hid (HOWN.out.alloc (.cells #[.slice ta x.1.length tc, .slice la x.2.1.length lc, .bool x.2.2] 69))
   by_cases h0 : x.1.length = 0
   ·have k1 : ¬ (0 : Int) < (x.1.length : Int) := by omega
    have hfi : covF b i = false := by rw [covF_at hx, List.eq_nil_of_length_eq_zero h0]; rfl
    have hnx := bsAt_next b.length (covF b) i
    rw [hfi] at hnx
    have HNX := Lib.hid hnx
    clear hfi hnx h0 xt xl e1 x0 x1 x2 hx
    go_wp2_with fail
    go_roundg (b.length - (i + 1))
    case rel => exact ⟨i + 1, rfl, by omega, by go_num, by rw [← HNX.out]; exact HOB.out, HFB.out⟩
    case measure => have := HQ.out; omega
   ·have k1 : (0 : Int) < (x.1.length : Int) := by omega
    have hne : x.1 ≠ [] := fun e => h0 (by rw [e]; rfl)
    obtain ⟨j, y, hji, hj, hy1, hby⟩ := HV.out.up hx hne
    obtain ⟨b2, o2, d2, _, _, _, _, e2, _, _, y2, _, _⟩ := H.out.at_ hj
    obtain ⟨rfl, rfl⟩ : b1 = b2 ∧ o1 = o2 := by simpa using (Value.slice.inj e2).1
    have cy : wr.cell? ⟨b1, o1 + j * 3 + 2, none⟩ = some (.bool y.2.2) := by rw [Nat.add_assoc]; exact HF.out.cell y2 (by simp)
    have k2 : IntKind.i64.wrap ((x.1.length : Int) - 1) = ((x.1.length - 1 : Nat) : Int) := by rw [IntWalk.i64_in _ (by omega)]; omega
    have k3 : (0 : Int) ≤ ((x.1.length - 1 : Nat) : Int) := by omega
    have k4 : ((x.1.length - 1 : Nat) : Int) ≤ (tc : Int) := by omega
    have k5 : x.1.length - 1 ≤ tc := by omega
    have k6 : (j : Int) < (b.length : Int) := by omega
    have k7 : (0 : Int) ≤ (j : Int) := by omega
    have hg := HV.out.tr.look hj
    rw [hy1] at hg
    have HG := Lib.hid hg
    have HDR := Lib.hid ((row_drop xt hne).nil HFB.out)
    have HSM : Hid (Small x.1.dropLast) := Lib.hid (fun e he => small_vis hxok.vis e (List.dropLast_subset _ he))
    have hdl : x.1.dropLast.length ≤ 100000 := by have := hxok.short; rw [List.length_dropLast]; omega
    obtain ⟨B1, hB1⟩ : ∃ B, B = beyondB b y.1 := ⟨_, rfl⟩
    obtain ⟨_, _, eo, _, _, _, hrow⟩ := ownsB_some HOWN.out (by omega)
    cases eo
    have gj := hrow.cell (i := j) (v := .bool B1) (bools_get (by rw [bsAt_get _ _ _ _ _ (by omega), if_pos hji, covF_at hj, hB1]))
    have gi := hrow.cell (i := i) (v := .bool false) (bools_get (by rw [bsAt_get _ _ _ _ _ hlt, if_neg (by omega), if_pos rfl]))
    have gz := hrow.frozen i
    have hfi : covF b i = (B1 || y.2.2) := by rw [covF_at hx, hby, hB1]
    have hnx := bsAt_next b.length (covF b) i
    rw [hfi] at hnx
    have HNX := Lib.hid hnx
    have HKM : Hid (∀ W, Frm [] w W → KM strV W tm (idxK b)) := Lib.hid fun W hf => HM.out.frm hf (by simp)
    have HCY : Hid (∀ W, Frm [] wr W → W.cell? ⟨b1, o1 + j * 3 + 2, none⟩ = some (.bool y.2.2) ∧ W.cell? ⟨w.heap.size, j, none⟩ = some (.bool B1) ∧ W.cell? ⟨w.heap.size, i, none⟩ = some (.bool false)) := Lib.hid fun W hf => ⟨hf.cell cy (by simp), hf.cell gj (by simp), hf.cell gi (by simp)⟩
    have HGZ : Hid (∀ W, Frm [] wr W → W.frozen? ⟨w.heap.size, i, none⟩ = false) := Lib.hid fun W hf => hf.frz gi gz (by simp)
    have fb : Frm [] wr (wr.alloc (.cells #[.slice ta x.1.length tc, .slice la x.2.1.length lc, .bool x.2.2] 69)) := (Frm.refl [] wr).alloc _
    have FB := Lib.hid fb
    clear xt xl e1 x0 x1 x2 hx h0 hne hj hy1 hby e2 y2 cy hg hrow gj gi gz hfi hnx hB1 hxok fb
    cases B1
    all_goals
     go_wp2_with (first
      | (go_at_call 48; refine (key_any _ _ x.1.dropLast HDR.out HSM.out hdl).mono ?_; rintro e6 w6 ⟨rfl, hf6⟩; have F6 := FB.out.trans hf6 (by simp); have g6 := HCY.out _ F6; obtain ⟨q1, q2, q3⟩ := g6; have q4 := HGZ.out _ F6; have SK := HKM.out _ (HFB.out.trans hf6 (by simp)))
      | (at_lookup; refine wpl_slook rfl _ _ 77 false rfl Tryz.underlying9 Tryz.underlying77 (Tryz.zeroValue3 _) tm (idxK b) rfl SK HKN.out (keyS x.1.dropLast) rfl ?_; rw [HG.out])
      | fail)
     go_roundg (b.length - (i + 1))
     case rel =>
      refine ⟨i + 1, rfl, by omega, by go_num, ?_, (HFB.out.trans hf6 (by simp)).trans ((Frm.refl [w.heap.size] _).setCell (p := ⟨w.heap.size, i, none⟩) (.inl (by simp)) _) (by simp)⟩
      rw [← HNX.out, ← bsAt_set _ _ _ false, bools_set]
      exact ownsB_setCell (ownsB_frm HOB.out hf6 (by simp)) rfl _ _
     case measure => have := HQ.out; omega
  ·have i5 : ¬ (i : Int) < (b.length : Int) := by omega
   have ho := HOWN.out
   rw [show i = b.length by omega, bsAt_end] at ho
   have HO := Lib.hid ho
   clear ho
   go_wp2_with fail
   go_ret
   exact ⟨rfl, HO.out, HF.out⟩
end Go.Proofs.YtikpcipkkhmcfaaGreat.Beh
