/- Texts VF, VG. -/
import Derived.Test.YtikpcipkkhmcfaaGreatQ05
import Derived.Test.YtikpcipkkhmcfaaGreatQ06
import Derived.Deep.DeepCutAuto
/- The reference's equality of entries and of behaviors; Permits. -/
namespace Go.Proofs.YtikpcipkkhmcfaaGreat.Beh
open Go.RowKit Go.Lib Go.Proofs.YtikpcipkkhmcfaaGreat Go.Proofs.YtikpcipkkhmcfaaGreat.Ind

set_option linter.unusedSimpArgs false in
set_option maxRecDepth 100000 in
set_option maxHeartbeats 4000000 in
theorem sameEntry_any {F G : List Nat} (w : World) (p q : EV) (h1 : EntAt w F p) (h2 : EntAt w G q) :
  Calls Tryz.prog 42 #[.agg (enE p).toArray, .agg (enE q).toArray] w fun e w' => e = .returned (.bool (decide (p.2 = q.2))) ∧ Frm [] w w' := by
 obtain ⟨⟨v1, v2⟩, t, l, d⟩ := p
 obtain ⟨⟨v3, v4⟩, t', l', d'⟩ := q
 obtain ⟨ht, hl⟩ := h1
 obtain ⟨ht', hl'⟩ := h2
 simp only at ht hl ht' hl'
 obtain ⟨ta, tc, rfl⟩ := ht.shape
 obtain ⟨ta', tc', rfl⟩ := ht'.shape
 obtain ⟨la, lc, rfl⟩ := hl.shape
 obtain ⟨la', lc', rfl⟩ := hl'.shape
 have HI : Hid (∀ W, Frm [] w W → Calls Tryz.prog 34 #[.slice ta t.length tc, .slice ta' t'.length tc'] W fun e w' => e = .returned (.bool (decide (t = t'))) ∧ Frm [] W w') := Lib.hid fun W hf => Go.Proofs.YtikpcipkkhmcfaaGreat.ints_same W.heap.size ta ta' tc tc' t t' W (ht.nil hf).rd (ht'.nil hf).rd
 have HS : Hid (∀ W, Frm [] w W → Calls Tryz.prog 71 #[.slice la l.length lc, .slice la' l'.length lc'] W fun e w' => e = .returned (.bool (decide (l = l'))) ∧ Frm [] W w') := Lib.hid fun W hf => refSets_any W _ _ l l' (hl.nil hf) (hl'.nil hf)
 have HR : Hid (decide (((t, l, d) : En) = (t', l', d')) = (decide (d = d') && (decide (t = t') && decide (l = l')))) := Lib.hid (by
  rw [Bool.eq_iff_iff]
  simp only [decide_eq_true_eq, Bool.and_eq_true, Prod.mk.injEq]
  constructor
  ·rintro ⟨a, b, c⟩; exact ⟨c, a, b⟩
  ·rintro ⟨c, a, b⟩; exact ⟨a, b, c⟩)
 obtain ⟨bt, hbt⟩ : ∃ b, b = decide (t = t') := ⟨_, rfl⟩
 obtain ⟨bl, hbl⟩ : ∃ b, b = decide (l = l') := ⟨_, rfl⟩
 simp only [← hbt, ← hbl] at HI HS HR
 clear hbt hbl ht hl ht' hl'
 unfold enE
 simp only
 have hb1 := (RowAt.made w 69 [.slice ta t.length tc, .slice la l.length lc, .bool d] #[.slice ta t.length tc, .slice la l.length lc, .bool d] rfl).alloc (.cells #[.slice ta' t'.length tc', .slice la' l'.length lc', .bool d'] 69)
 have hb2 := row_made1 w (.cells #[.slice ta t.length tc, .slice la l.length lc, .bool d] 69) 69 [.slice ta' t'.length tc', .slice la' l'.length lc', .bool d'] #[.slice ta' t'.length tc', .slice la' l'.length lc', .bool d'] rfl
 have F0 : Frm [] w ((w.alloc (.cells #[.slice ta t.length tc, .slice la l.length lc, .bool d] 69)).alloc (.cells #[.slice ta' t'.length tc', .slice la' l'.length lc', .bool d'] 69)) := ((Frm.refl [] w).alloc _).alloc _
 have HB1 := Lib.hid hb1
 have HB2 := Lib.hid hb2
 have HF0 := Lib.hid F0
 clear hb1 hb2 F0
 go_enter Tryz.func42, Tryz.ntmps42
 go_upto_region 1 with fail
 generalize World.alloc (World.alloc _ _) _ = W at *
 have KEEP : Hid (∀ w', Frm [] W w' → w'.cell? ⟨w.heap.size, 0, none⟩ = some (.slice ta t.length tc) ∧ w'.cell? ⟨w.heap.size, 1, none⟩ = some (.slice la l.length lc) ∧ w'.cell? ⟨w.heap.size, 2, none⟩ = some (.bool d) ∧ w'.cell? ⟨w.heap.size + 1, 0, none⟩ = some (.slice ta' t'.length tc') ∧ w'.cell? ⟨w.heap.size + 1, 1, none⟩ = some (.slice la' l'.length lc') ∧ w'.cell? ⟨w.heap.size + 1, 2, none⟩ = some (.bool d')) := Lib.hid fun w' hf => by
  have a := HB1.out.frm hf (by simp)
  have b := HB2.out.frm hf (by simp)
  exact ⟨a.cell (i := 0) rfl, a.cell (i := 1) rfl, a.cell (i := 2) rfl, b.cell (i := 0) rfl, b.cell (i := 1) rfl, b.cell (i := 2) rfl⟩
 obtain ⟨c0, c1, c2, c3, c4, c5⟩ := KEEP.out W (Frm.refl [] W)
 clear HB1 HB2
 by_cases hd : d = d'
 ·subst hd
  have hdd : (d == d) = true := by cases d <;> rfl
  cases bt with
  | true =>
   go_wp2_with (first
    | (go_at_call 34; refine (HI.out _ HF0.out).mono ?_; rintro e1 w1 ⟨rfl, hf1⟩; obtain ⟨d0, d1, d2, d3, d4, d5⟩ := KEEP.out w1 hf1)
    | (go_at_call 71; refine (HS.out _ (HF0.out.trans hf1 (by simp))).mono ?_; rintro e2 w2 ⟨rfl, hf2⟩)
    | fail)
   go_ret
   refine ⟨?_, (HF0.out.trans hf1 (by simp)).trans hf2 (by simp)⟩
   rw [HR.out]
   simp
   try rfl
  | false =>
   go_wp2_with (first
    | (go_at_call 34; refine (HI.out _ HF0.out).mono ?_; rintro e1 w1 ⟨rfl, hf1⟩; obtain ⟨d0, d1, d2, d3, d4, d5⟩ := KEEP.out w1 hf1)
    | (go_at_call 71; refine (HS.out _ (HF0.out.trans hf1 (by simp))).mono ?_; rintro e2 w2 ⟨rfl, hf2⟩)
    | fail)
   go_ret
   refine ⟨?_, HF0.out.trans hf1 (by simp)⟩
   rw [HR.out]
   simp
   try rfl
 ·have hdd : (d == d') = false := by simpa using hd
  have HD := Lib.hid hd
  clear hd
  go_wp2_with fail
  go_ret
  refine ⟨?_, HF0.out⟩
  rw [HR.out, decide_eq_false HD.out]
  simp
  try rfl
end Go.Proofs.YtikpcipkkhmcfaaGreat.Beh

/- The reference's equality of behaviors. -/
namespace Go.Proofs.YtikpcipkkhmcfaaGreat.Beh
open Go.RowKit Go.Lib Go.Proofs.YtikpcipkkhmcfaaGreat Go.Proofs.YtikpcipkkhmcfaaGreat.Ind

theorem beh_few {w : World} {F : List Nat} {v : Value} {b : List En} (h : BehAt w F v b) : (b.length : Int) ≤ 9223372036854775807 := by
 obtain ⟨_, _, h2, _⟩ := h
 obtain ⟨a, c, rfl⟩ := h2.shape
 exact h2.rd.lt
set_option linter.unusedSimpArgs false in
set_option maxRecDepth 100000 in
set_option maxHeartbeats 4000000 in
theorem refSame_any {F G : List Nat} (w : World) (v1 v2 : Value) (r1 r2 : List En) (h1 : BehAt w F v1 r1) (h2 : BehAt w G v2 r2) :
  Calls Tryz.prog 33 #[v1, v2] w fun e w' => e = .returned (.bool (decide (r1 = r2))) ∧ Frm [] w w' := by
 have f1 := beh_few h1
 have f2 := beh_few h2
 obtain ⟨a1, c1, rfl⟩ := h1.shape
 obtain ⟨a2, c2, rfl⟩ := h2.shape
 have H1 := Lib.hid h1
 have H2 := Lib.hid h2
 clear h1 h2
 by_cases hl : r1.length = r2.length
 ·have HL := Lib.hid hl
  have jn : ((r1.length : Int) != (r2.length : Int)) = false := by rw [hl]; simp
  clear hl
  go_enter Tryz.func33, Tryz.ntmps33
  go_wp2_with fail
  go_loopg [5] r1.length (fun q t wr => ∃ (k : Nat), q = r1.length - k ∧ k ≤ r1.length ∧ t = .int .i64 k ∧ r1.take k = r2.take k ∧ Frm [] w wr)
  case atStart => exact ⟨0, rfl, Nat.zero_le _, rfl, rfl, Frm.refl _ _⟩
  case round =>
   obtain ⟨k, hq, hk, rfl, htk, hF⟩ := hrel
   have HQ := Lib.hid hq
   have FW := Lib.hid hF
   have HT := Lib.hid htk
   have i4 : (0 : Int) ≤ (k : Int) := by omega
   clear hq hF htk
   by_cases hlt : k < r1.length
   ·have i5 : (k : Int) < (r1.length : Int) := by omega
    have hlt2 : k < r2.length := by have := HL.out; omega
    have i6 : (k : Int) < (r2.length : Int) := by omega
    obtain ⟨x, hx⟩ : ∃ x, r1[k]? = some x := ⟨_, List.getElem?_eq_getElem hlt⟩
    obtain ⟨y, hy⟩ : ∃ y, r2[k]? = some y := ⟨_, List.getElem?_eq_getElem hlt2⟩
    obtain ⟨b1, o1, d1, ta, tc, la, lc, e1, x0, x1, x2, xt, xl⟩ := H1.out.at_ hx
    obtain ⟨rfl, rfl⟩ : a1 = some ⟨b1, o1, none⟩ ∧ c1 = d1 := by simpa using e1
    obtain ⟨b2, o2, d2, ta', tc', la', lc', e2, y0, y1, y2, yt, yl⟩ := H2.out.at_ hy
    obtain ⟨rfl, rfl⟩ : a2 = some ⟨b2, o2, none⟩ ∧ c2 = d2 := by simpa using e2
    have HX := Lib.hid hx
    have HY := Lib.hid hy
    have KEEP : Hid (∀ w', Frm [] wr w' → w'.cell? ⟨b1, o1 + k * 3, none⟩ = some (.slice ta x.1.length tc) ∧ w'.cell? ⟨b1, o1 + k * 3 + 1, none⟩ = some (.slice la x.2.1.length lc) ∧ w'.cell? ⟨b1, o1 + k * 3 + 2, none⟩ = some (.bool x.2.2) ∧ w'.cell? ⟨b2, o2 + k * 3, none⟩ = some (.slice ta' y.1.length tc') ∧ w'.cell? ⟨b2, o2 + k * 3 + 1, none⟩ = some (.slice la' y.2.1.length lc') ∧ w'.cell? ⟨b2, o2 + k * 3 + 2, none⟩ = some (.bool y.2.2)) := Lib.hid fun w' hf => by
     have ff := FW.out.trans hf (by simp)
     exact ⟨ff.cell x0 (by simp), by rw [Nat.add_assoc]; exact ff.cell x1 (by simp), by rw [Nat.add_assoc]; exact ff.cell x2 (by simp), ff.cell y0 (by simp), by rw [Nat.add_assoc]; exact ff.cell y1 (by simp), by rw [Nat.add_assoc]; exact ff.cell y2 (by simp)⟩
    have HC : Hid (∀ W, Frm [] wr W → Calls Tryz.prog 42 #[.agg #[.slice ta x.1.length tc, .slice la x.2.1.length lc, .bool x.2.2], .agg #[.slice ta' y.1.length tc', .slice la' y.2.1.length lc', .bool y.2.2]] W fun e w' => e = .returned (.bool (decide (x = y))) ∧ Frm [] W w') := Lib.hid fun W hf => by
     have ff := FW.out.trans hf (by simp)
     exact sameEntry_any (F := F) (G := G) W ((.slice ta x.1.length tc, .slice la x.2.1.length lc), x) ((.slice ta' y.1.length tc', .slice la' y.2.1.length lc'), y) ⟨xt.nil ff, xl.nil ff⟩ ⟨yt.nil ff, yl.nil ff⟩
    clear x0 x1 x2 xt xl y0 y1 y2 yt yl hx hy e1 e2
    go_wp2_with fail
    by_cases hxy : x = y
    ·have HXY := Lib.hid hxy
     have hc := HC.out
     rw [decide_eq_true hxy] at hc
     have HC2 := Lib.hid hc
     clear hxy hc HC
     go_region_held3 (fun w' => w'.cell? ⟨b1, o1 + k * 3, none⟩ = some (.slice ta x.1.length tc) ∧ w'.cell? ⟨b1, o1 + k * 3 + 1, none⟩ = some (.slice la x.2.1.length lc) ∧ w'.cell? ⟨b1, o1 + k * 3 + 2, none⟩ = some (.bool x.2.2) ∧ w'.cell? ⟨b2, o2 + k * 3, none⟩ = some (.slice ta' y.1.length tc') ∧ w'.cell? ⟨b2, o2 + k * 3 + 1, none⟩ = some (.slice la' y.2.1.length lc') ∧ w'.cell? ⟨b2, o2 + k * 3 + 2, none⟩ = some (.bool y.2.2))
      (first | exact KEEP.out _ (Frm.refl [] wr).drew | exact KEEP.out _ hy5)
      (first | (go_at_call 42; refine (HC2.out _ (Frm.refl [] wr).drew).mono ?_; rintro e5 w5 ⟨rfl, hf5⟩; have hy5 := (Frm.refl [] wr).drew.trans hf5 (by simp)))
     go_wp2_with fail
     go_roundg (r1.length - (k + 1))
     case rel => exact ⟨k + 1, rfl, by omega, by go_num, take_next2 HT.out HX.out (by rw [HXY.out]; exact HY.out), FW.out.trans hy5 (by simp)⟩
     case measure => have := HQ.out; omega
    ·have hc := HC.out
     rw [decide_eq_false hxy] at hc
     have HC2 := Lib.hid hc
     have HR : Hid (decide (r1 = r2) = false) := Lib.hid (by
      rw [decide_eq_false_iff_not]
      intro h9
      have h8 := HX.out
      rw [h9, HY.out] at h8
      exact hxy (by cases h8; rfl))
     clear hxy hc HC
     go_region_held3 (fun w' => w'.cell? ⟨b1, o1 + k * 3, none⟩ = some (.slice ta x.1.length tc) ∧ w'.cell? ⟨b1, o1 + k * 3 + 1, none⟩ = some (.slice la x.2.1.length lc) ∧ w'.cell? ⟨b1, o1 + k * 3 + 2, none⟩ = some (.bool x.2.2) ∧ w'.cell? ⟨b2, o2 + k * 3, none⟩ = some (.slice ta' y.1.length tc') ∧ w'.cell? ⟨b2, o2 + k * 3 + 1, none⟩ = some (.slice la' y.2.1.length lc') ∧ w'.cell? ⟨b2, o2 + k * 3 + 2, none⟩ = some (.bool y.2.2))
      (first | exact KEEP.out _ (Frm.refl [] wr).drew | exact KEEP.out _ hy5)
      (first | (go_at_call 42; refine (HC2.out _ (Frm.refl [] wr).drew).mono ?_; rintro e5 w5 ⟨rfl, hf5⟩; have hy5 := (Frm.refl [] wr).drew.trans hf5 (by simp)))
     go_wp2_with fail
     go_ret
     exact ⟨by rw [HR.out]; rfl, FW.out.trans hy5 (by simp)⟩
   ·have i5 : ¬ (k : Int) < (r1.length : Int) := by omega
    have HR : Hid (decide (r1 = r2) = true) := Lib.hid (by
     have e := HT.out
     rw [List.take_of_length_le (by omega), List.take_of_length_le (by have := HL.out; omega)] at e
     rw [e]; simp)
    go_wp2_with fail
    go_ret
    exact ⟨by rw [HR.out]; rfl, FW.out⟩
 ·have jn : ((r1.length : Int) != (r2.length : Int)) = true := by simp; omega
  have HR : Hid (decide (r1 = r2) = false) := Lib.hid (by simp; rintro rfl; exact hl rfl)
  clear hl
  go_enter Tryz.func33, Tryz.ntmps33
  go_wp2_with fail
  go_ret
  exact ⟨by rw [HR.out]; rfl, Frm.refl _ _⟩
end Go.Proofs.YtikpcipkkhmcfaaGreat.Beh
