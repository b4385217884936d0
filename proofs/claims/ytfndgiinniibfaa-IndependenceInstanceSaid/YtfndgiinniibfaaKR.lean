/- Contract of the reference's insert. (Printed by wip/tools/kr.py.) -/
import Derived.Test.YtfndgiinniibfaaKQ
import Derived.Deep.RegionHeld3
namespace Go.Proofs.Ytfndgiinniibfaa.Ind
open Go.Shelf Go.RowKit Go.Lib Go.Sort

theorem fm_take {α : Type} {enc : α → List Value} {k : Nat} (hk : ∀ x, (enc x).length = k) (l : List α) (i : Nat) : (l.flatMap enc).take (i * k) = (l.take i).flatMap enc := by
  have h := flatMap_len (enc := enc) (k := k) hk
  by_cases hi : i ≤ l.length
  · have e : l.flatMap enc = (l.take i).flatMap enc ++ (l.drop i).flatMap enc := by rw [← List.flatMap_append, List.take_append_drop]
    rw [e, List.take_left' (by rw [h, List.length_take, Nat.min_eq_left hi])]
  · rw [List.take_of_length_le (by rw [h]; exact Nat.mul_le_mul_right k (by omega)), List.take_of_length_le (by omega)]
theorem fm_drop {α : Type} {enc : α → List Value} {k : Nat} (hk : ∀ x, (enc x).length = k) (l : List α) (i : Nat) : (l.flatMap enc).drop (i * k) = (l.drop i).flatMap enc := by
  have h := flatMap_len (enc := enc) (k := k) hk
  by_cases hi : i ≤ l.length
  · have e : l.flatMap enc = (l.take i).flatMap enc ++ (l.drop i).flatMap enc := by rw [← List.flatMap_append, List.take_append_drop]
    rw [e, List.drop_left' (by rw [h, List.length_take, Nat.min_eq_left hi])]
  · rw [List.drop_eq_nil_of_le (by rw [h]; exact Nat.mul_le_mul_right k (by omega)), List.drop_eq_nil_of_le (by omega)]; rfl
theorem cellsK {α : Type} {enc : α → List Value} {k : Nat} (hk : ∀ x, (enc x).length = k) {w : World} {B e n cap g : Nat} {l : List α} (h : w.ownsRow B e k (.slice (some ⟨g, 0, none⟩) n cap) n (l.flatMap enc)) (hn : 0 < n) {i : Nat} {x : α} (hx : l[i]? = some x) : ∀ (j : Nat) (u : Value), j < k → (enc x)[j]? = some u → w.cell? ⟨g, i * k + j, none⟩ = some u := by
  intro j u hj hu
  obtain ⟨g', cap', e, _, _, _, hr⟩ := ownsB_some h hn
  cases e
  exact hr.cell (by rw [flatMap_get (enc := enc) (k := k) hk hx j hj]; exact hu)
set_option linter.unusedSimpArgs false in
set_option maxRecDepth 100000 in
set_option maxHeartbeats 8000000 in
theorem insE_any (B : Nat) (a : Option Addr) (cap : Nat) (l : List M6) (x : M6) (w : World) (h : w.ownsRow B 100 6 (.slice a l.length cap) l.length (l.flatMap enc6)) (hz : l = [] → a = none ∧ cap = 0) (hl : l.length ≤ 1000000) (hB : B ≤ w.heap.size) :
    Calls Try.prog 74 #[.slice a l.length cap, .agg (enc6 x).toArray] w fun e w' => (∃ a' cp', e = .returned (.slice a' (insG lt6 l x).length cp') ∧ w'.ownsRow B 100 6 (.slice a' (insG lt6 l x).length cp') (insG lt6 l x).length ((insG lt6 l x).flatMap enc6)) ∧ Frm [] w w' := by
  have heq := fun w y => eqE w y x
  have hgd := guardE
  unfold enc6 at heq
  have hbx := RowAt.made w 100 [.int .i64 x.1, .int .i64 x.2.1, .int .i64 x.2.2.1, .int .i64 x.2.2.2.1, .int .i64 x.2.2.2.2.1, .int .i64 x.2.2.2.2.2] #[.int .i64 x.1, .int .i64 x.2.1, .int .i64 x.2.2.1, .int .i64 x.2.2.2.1, .int .i64 x.2.2.2.2.1, .int .i64 x.2.2.2.2.2] rfl
  have f0 : Frm [] w (w.alloc (.cells #[.int .i64 x.1, .int .i64 x.2.1, .int .i64 x.2.2.1, .int .i64 x.2.2.2.1, .int .i64 x.2.2.2.2.1, .int .i64 x.2.2.2.2.2] 100)) := (Frm.refl [] w).alloc _
  by_cases hnil : l = []
  · obtain ⟨rfl, rfl⟩ := hz hnil
    subst hnil
    have HBX := Lib.hid hbx
    have F0 := Lib.hid f0
    clear h hz hl heq hgd f0 hbx
    rw [show (enc6 x).toArray = #[.int .i64 x.1, .int .i64 x.2.1, .int .i64 x.2.2.1, .int .i64 x.2.2.2.1, .int .i64 x.2.2.2.2.1, .int .i64 x.2.2.2.2.2] from rfl]
    simp only [List.length_nil]
    go_enter Try.func74, Try.ntmps74
    go_wp2_with fail
    generalize hW1 : w.alloc (.cells #[.int .i64 x.1, .int .i64 x.2.1, .int .i64 x.2.2.1, .int .i64 x.2.2.2.1, .int .i64 x.2.2.2.2.1, .int .i64 x.2.2.2.2.2] 100) = W1 at *
    clear hW1
    refine wp_loop_rounds 1 ?_
    rw [rounds_succ]
    go_wp2_with fail
    go_quiet (fail)
    go_wp2_with fail
    obtain ⟨W2, hW2⟩ : ∃ W2, W2 = W1.drewN nq := ⟨_, rfl⟩
    have F2 : Frm [] W1 W2 := by rw [hW2]; exact (Frm.refl [] W1).drewN _
    rw [← hW2]
    clear hW2
    go_quiet (fail)
    obtain ⟨We, hWe⟩ : ∃ We, We = W2.drewN nq := ⟨_, rfl⟩
    have F3 : Frm [] W2 We := by rw [hWe]; exact (Frm.refl [] W2).drewN _
    rw [← hWe]
    have FE := Lib.hid ((F0.out.trans F2 (by simp)).trans F3 (by simp))
    have BXE := Lib.hid ((HBX.out.frm F2 (by simp)).frm F3 (by simp))
    have e0 := BXE.out.cell (i := 0) rfl
    have e1 := BXE.out.cell (i := 1) rfl
    have e2 := BXE.out.cell (i := 2) rfl
    have e3 := BXE.out.cell (i := 3) rfl
    have e4 := BXE.out.cell (i := 4) rfl
    have e5 := BXE.out.cell (i := 5) rfl
    clear hWe F2 F3
    go_wp2_with (first
      | (at_builtin; refine app_row rfl (.tmp 56) (.tmp 59) 97 100 _ 6 48 rfl Try.underlying97 infoEd rfl (by decide) (by decide) We.heap.size 0 (.slice (some ⟨We.heap.size, 0, none⟩) 0 0) [] rfl (owns_made0 We 100 6) _ 0 [] [] rfl (RowV.nil0 _ _ _) (by simp) 0 (Nat.zero_add _) (by omega) (by simp) ?_; intro a6 c6 w6 own6 hf6 hb6; have F6 : Frm [] We w6 := frm_own ((Frm.refl [] We).alloc _) (owns_made0 We 100 6) (Nat.le_refl _) hf6; have bx6 := BXE.out.frm F6 (by simp); have h6_0 := bx6.cell (i := 0) rfl; have h6_1 := bx6.cell (i := 1) rfl; have h6_2 := bx6.cell (i := 2) rfl; have h6_3 := bx6.cell (i := 3) rfl; have h6_4 := bx6.cell (i := 4) rfl; have h6_5 := bx6.cell (i := 5) rfl)
      | (at_builtin; refine app_row rfl (.tmp 61) (.tmp 63) 97 100 _ 6 48 rfl Try.underlying97 infoEd rfl (by decide) (by decide) We.heap.size 0 (.slice a6 0 c6) _ rfl (own6.alloc _) _ 1 [.int .i64 x.1, .int .i64 x.2.1, .int .i64 x.2.2.1, .int .i64 x.2.2.2.1, .int .i64 x.2.2.2.2.1, .int .i64 x.2.2.2.2.2] [] rfl (rowV_cells (size := 6) (RowAt.made w6 100 [.int .i64 x.1, .int .i64 x.2.1, .int .i64 x.2.2.1, .int .i64 x.2.2.2.1, .int .i64 x.2.2.2.2.1, .int .i64 x.2.2.2.2.2] #[.int .i64 x.1, .int .i64 x.2.1, .int .i64 x.2.2.1, .int .i64 x.2.2.2.1, .int .i64 x.2.2.2.2.1, .int .i64 x.2.2.2.2.2] rfl) rfl (Nat.le_refl _) (by decide) (by simp)) (one6 x) 1 rfl (by omega) (by have := F6.size; simp; omega) ?_; intro a7 c7 w7 own7 hf7 hb7; have F7 : Frm [] We w7 := frm_own (F6.alloc _) (own6.alloc _) (Nat.le_refl _) hf7)
      | (at_builtin; refine app_row rfl (.tmp 65) (.tmp 68) 97 100 _ 6 48 rfl Try.underlying97 infoEd rfl (by decide) (by decide) We.heap.size 1 (.slice a7 1 c7) _ rfl own7 _ 0 [] [] rfl (RowV.nil0 _ _ _) (by simp) 1 (by omega) (by omega) F7.size ?_; intro a8 c8 w8 own8 hf8 hb8; have F8 : Frm [] We w8 := frm_own F7 own7 (Nat.le_refl _) hf8)
      | fail)
    go_ret
    refine ⟨⟨a8, c8, rfl, ?_⟩, FE.out.trans F8 (by simp)⟩
    have hb := ownsB_mono own8 (show B ≤ We.heap.size by have := FE.out.size; omega)
    simpa [insG, enc6] using hb
  · have hpos : 0 < l.length := List.length_pos_iff.2 hnil
    obtain ⟨g, cp, e0, hgB, hcap, hmax, hrow⟩ := ownsB_some h hpos
    obtain ⟨rfl, rfl⟩ : a = some ⟨g, 0, none⟩ ∧ cap = cp := by simpa using e0
    have HBX := Lib.hid hbx
    have H := Lib.hid h
    have hcl : (cap : Int) ≤ 9223372036854775807 := by unfold maxLen at hmax; omega
    have hlc : (l.length : Int) ≤ (cap : Int) := by omega
    have F0 := Lib.hid f0
    have HEQ := Lib.hid heq
    have HGD := Lib.hid hgd
    clear h hz e0 hbx hrow hmax hcap hnil f0 heq hgd
    rw [show (enc6 x).toArray = #[.int .i64 x.1, .int .i64 x.2.1, .int .i64 x.2.2.1, .int .i64 x.2.2.2.1, .int .i64 x.2.2.2.2.1, .int .i64 x.2.2.2.2.2] from rfl]
    go_enter Try.func74, Try.ntmps74
    go_wp2_with fail
    generalize hW1 : w.alloc (.cells #[.int .i64 x.1, .int .i64 x.2.1, .int .i64 x.2.2.1, .int .i64 x.2.2.2.1, .int .i64 x.2.2.2.2.1, .int .i64 x.2.2.2.2.2] 100) = W1 at *
    clear hW1
    go_loopg [5] l.length (fun q i wr => ∃ (k : Nat), q = l.length - k ∧ k ≤ l.length ∧ i = .int .i64 k ∧ (∀ (i : Nat) (y : M6), i < k → l[i]? = some y → lt6 y x = true) ∧ Frm [] W1 wr)
    case atStart => exact ⟨0, rfl, Nat.zero_le _, rfl, fun i y hi => absurd hi (Nat.not_lt_zero _), Frm.refl _ _⟩
    case round =>
      obtain ⟨k, hq, hk, rfl, hlow, hF⟩ := hrel
      have HQ := Lib.hid hq
      have HLOW := Lib.hid hlow
      have i4 : (0 : Int) ≤ (k : Int) := by omega
      have HF := Lib.hid hF
      have FW := Lib.hid (F0.out.trans hF (by simp))
      have BX := Lib.hid (HBX.out.frm hF (by simp))
      have OW := Lib.hid (ownsB_frm H.out FW.out (by simp))
      clear hq hF hlow
      have b0 := BX.out.cell (i := 0) rfl
      have b1 := BX.out.cell (i := 1) rfl
      have b2 := BX.out.cell (i := 2) rfl
      have b3 := BX.out.cell (i := 3) rfl
      have b4 := BX.out.cell (i := 4) rfl
      have b5 := BX.out.cell (i := 5) rfl
      by_cases hlt : k < l.length
      · have i5 : (k : Int) < (l.length : Int) := by omega
        have jd : decide (k < l.length) = true := decide_eq_true hlt
        have i6 : (k : Int) ≤ (cap : Int) := by omega
        obtain ⟨y, hy⟩ : ∃ y, l[k]? = some y := ⟨_, List.getElem?_eq_getElem hlt⟩
        have cy := cellsK (enc := enc6) (k := 6) (fun _ => rfl) OW.out hpos hy
        unfold enc6 at cy
        have c0 := cy 0 _ (by omega) rfl
        have c1 := cy 1 _ (by omega) rfl
        have c2 := cy 2 _ (by omega) rfl
        have c3 := cy 3 _ (by omega) rfl
        have c4 := cy 4 _ (by omega) rfl
        have c5 := cy 5 _ (by omega) rfl
        rw [Nat.add_zero] at c0
        have HY := Lib.hid hy
        have HC : Hid (wr.cell? ⟨g, k * 6, none⟩ = some (.int .i64 y.1) ∧ wr.cell? ⟨g, k * 6 + 1, none⟩ = some (.int .i64 y.2.1) ∧ wr.cell? ⟨g, k * 6 + 2, none⟩ = some (.int .i64 y.2.2.1) ∧ wr.cell? ⟨g, k * 6 + 3, none⟩ = some (.int .i64 y.2.2.2.1) ∧ wr.cell? ⟨g, k * 6 + 4, none⟩ = some (.int .i64 y.2.2.2.2.1) ∧ wr.cell? ⟨g, k * 6 + 5, none⟩ = some (.int .i64 y.2.2.2.2.2) ∧ wr.cell? ⟨w.heap.size, 0, none⟩ = some (.int .i64 x.1) ∧ wr.cell? ⟨w.heap.size, 1, none⟩ = some (.int .i64 x.2.1) ∧ wr.cell? ⟨w.heap.size, 2, none⟩ = some (.int .i64 x.2.2.1) ∧ wr.cell? ⟨w.heap.size, 3, none⟩ = some (.int .i64 x.2.2.2.1) ∧ wr.cell? ⟨w.heap.size, 4, none⟩ = some (.int .i64 x.2.2.2.2.1) ∧ wr.cell? ⟨w.heap.size, 5, none⟩ = some (.int .i64 x.2.2.2.2.2)) := Lib.hid ⟨c0, c1, c2, c3, c4, c5, b0, b1, b2, b3, b4, b5⟩
        have KEEP : Hid (∀ w', Frm [] wr w' → w'.cell? ⟨g, k * 6, none⟩ = some (.int .i64 y.1) ∧ w'.cell? ⟨g, k * 6 + 1, none⟩ = some (.int .i64 y.2.1) ∧ w'.cell? ⟨g, k * 6 + 2, none⟩ = some (.int .i64 y.2.2.1) ∧ w'.cell? ⟨g, k * 6 + 3, none⟩ = some (.int .i64 y.2.2.2.1) ∧ w'.cell? ⟨g, k * 6 + 4, none⟩ = some (.int .i64 y.2.2.2.2.1) ∧ w'.cell? ⟨g, k * 6 + 5, none⟩ = some (.int .i64 y.2.2.2.2.2) ∧ w'.cell? ⟨w.heap.size, 0, none⟩ = some (.int .i64 x.1) ∧ w'.cell? ⟨w.heap.size, 1, none⟩ = some (.int .i64 x.2.1) ∧ w'.cell? ⟨w.heap.size, 2, none⟩ = some (.int .i64 x.2.2.1) ∧ w'.cell? ⟨w.heap.size, 3, none⟩ = some (.int .i64 x.2.2.2.1) ∧ w'.cell? ⟨w.heap.size, 4, none⟩ = some (.int .i64 x.2.2.2.2.1) ∧ w'.cell? ⟨w.heap.size, 5, none⟩ = some (.int .i64 x.2.2.2.2.2)) := Lib.hid fun w' hf => by
          obtain ⟨h0, h1, h2, h3, h4, h5, h6, h7, h8, h9, h10, h11⟩ := HC.out
          exact ⟨hf.cell h0 (by simp), hf.cell h1 (by simp), hf.cell h2 (by simp), hf.cell h3 (by simp), hf.cell h4 (by simp), hf.cell h5 (by simp), hf.cell h6 (by simp), hf.cell h7 (by simp), hf.cell h8 (by simp), hf.cell h9 (by simp), hf.cell h10 (by simp), hf.cell h11 (by simp)⟩
        clear cy hy
        by_cases h1 : y.1 < x.1
        · have jl : decide (y.1 < x.1) = true := decide_eq_true h1
          have HLT : Hid (lt6 y x = true) := Lib.hid ((ltN_iff (toM y) (toM x)).2 (.inl h1))
          go_wp2_with fail
          go_quiet (fail)
          obtain ⟨WX, hWX⟩ : ∃ WX, WX = wr.drewN nq := ⟨_, rfl⟩
          have HX5 := Lib.hid (show Frm [] wr WX by rw [hWX]; exact (Frm.refl [] wr).drewN _)
          rw [← hWX]
          clear hWX c0 c1 c2 c3 c4 c5 b0 b1 b2 b3 b4 b5
          go_wp2_with fail
          go_roundg (l.length - (k + 1))
          case rel =>
            refine ⟨k + 1, rfl, by omega, by go_num, fun i z hi hz => ?_, HF.out.trans HX5.out (by simp)⟩
            by_cases e : i < k
            · exact HLOW.out i z e hz
            · have e2 : i = k := by omega
              rw [e2, HY.out] at hz
              cases hz
              exact HLT.out
          case measure => have := HQ.out; omega
        · have jl : decide (y.1 < x.1) = false := decide_eq_false h1
          by_cases h2 : y.1 = x.1
          · have je : (y.1 == x.1) = true := by simpa using h2
            have hcall := less_any y.2 x.2
            have hlm : lt6 y x = ltP (toP y.2) (toP x.2) := by
              rw [Bool.eq_iff_iff]
              rw [show lt6 y x = ltN ltP (toM y) (toM x) from rfl, ltN_iff]
              show (y.1 < x.1 ∨ y.1 = x.1 ∧ ltP (toP y.2) (toP x.2) = true) ↔ _
              constructor
              · rintro (h9 | h9)
                · exact absurd h9 h1
                · exact h9.2
              · exact fun h9 => .inr ⟨h2, h9⟩
            unfold p5V at hcall
            clear h1 h2
            cases hp : ltP (toP y.2) (toP x.2) with
            | true =>
              rw [hp] at hlm hcall
              have HLT := Lib.hid hlm
              have HC2 := Lib.hid hcall
              clear hlm hcall hp
              go_wp2_with fail
              clear c0 c1 c2 c3 c4 c5 b0 b1 b2 b3 b4 b5
              go_region_held3 (fun w' => w'.cell? ⟨g, k * 6, none⟩ = some (.int .i64 y.1) ∧ w'.cell? ⟨g, k * 6 + 1, none⟩ = some (.int .i64 y.2.1) ∧ w'.cell? ⟨g, k * 6 + 2, none⟩ = some (.int .i64 y.2.2.1) ∧ w'.cell? ⟨g, k * 6 + 3, none⟩ = some (.int .i64 y.2.2.2.1) ∧ w'.cell? ⟨g, k * 6 + 4, none⟩ = some (.int .i64 y.2.2.2.2.1) ∧ w'.cell? ⟨g, k * 6 + 5, none⟩ = some (.int .i64 y.2.2.2.2.2) ∧ w'.cell? ⟨w.heap.size, 0, none⟩ = some (.int .i64 x.1) ∧ w'.cell? ⟨w.heap.size, 1, none⟩ = some (.int .i64 x.2.1) ∧ w'.cell? ⟨w.heap.size, 2, none⟩ = some (.int .i64 x.2.2.1) ∧ w'.cell? ⟨w.heap.size, 3, none⟩ = some (.int .i64 x.2.2.2.1) ∧ w'.cell? ⟨w.heap.size, 4, none⟩ = some (.int .i64 x.2.2.2.2.1) ∧ w'.cell? ⟨w.heap.size, 5, none⟩ = some (.int .i64 x.2.2.2.2.2))
                (first | exact KEEP.out _ (Frm.refl [] wr).drew | exact KEEP.out _ hy5)
                (first | (go_at_call 95; refine (HC2.out _).mono ?_; rintro e5 WX ⟨rfl, hf5⟩; have hy5 := (Frm.refl [] wr).drew.trans hf5 (by simp)))
              have HX5 := Lib.hid hy5
              clear hf5 hy5
              go_wp2_with fail
              go_roundg (l.length - (k + 1))
              case rel =>
                refine ⟨k + 1, rfl, by omega, by go_num, fun i z hi hz => ?_, HF.out.trans HX5.out (by simp)⟩
                by_cases e : i < k
                · exact HLOW.out i z e hz
                · have e2 : i = k := by omega
                  rw [e2, HY.out] at hz
                  cases hz
                  exact HLT.out
              case measure => have := HQ.out; omega
            | false =>
              rw [hp] at hlm hcall
              have HLT := Lib.hid hlm
              have HC2 := Lib.hid hcall
              clear hlm hcall hp
              go_wp2_with fail
              clear c0 c1 c2 c3 c4 c5 b0 b1 b2 b3 b4 b5
              go_region_held3 (fun w' => w'.cell? ⟨g, k * 6, none⟩ = some (.int .i64 y.1) ∧ w'.cell? ⟨g, k * 6 + 1, none⟩ = some (.int .i64 y.2.1) ∧ w'.cell? ⟨g, k * 6 + 2, none⟩ = some (.int .i64 y.2.2.1) ∧ w'.cell? ⟨g, k * 6 + 3, none⟩ = some (.int .i64 y.2.2.2.1) ∧ w'.cell? ⟨g, k * 6 + 4, none⟩ = some (.int .i64 y.2.2.2.2.1) ∧ w'.cell? ⟨g, k * 6 + 5, none⟩ = some (.int .i64 y.2.2.2.2.2) ∧ w'.cell? ⟨w.heap.size, 0, none⟩ = some (.int .i64 x.1) ∧ w'.cell? ⟨w.heap.size, 1, none⟩ = some (.int .i64 x.2.1) ∧ w'.cell? ⟨w.heap.size, 2, none⟩ = some (.int .i64 x.2.2.1) ∧ w'.cell? ⟨w.heap.size, 3, none⟩ = some (.int .i64 x.2.2.2.1) ∧ w'.cell? ⟨w.heap.size, 4, none⟩ = some (.int .i64 x.2.2.2.2.1) ∧ w'.cell? ⟨w.heap.size, 5, none⟩ = some (.int .i64 x.2.2.2.2.2))
                (first | exact KEEP.out _ (Frm.refl [] wr).drew | exact KEEP.out _ hy5)
                (first | (go_at_call 95; refine (HC2.out _).mono ?_; rintro e5 WX ⟨rfl, hf5⟩; have hy5 := (Frm.refl [] wr).drew.trans hf5 (by simp)))
              have HX5 := Lib.hid hy5
              clear hf5 hy5
              by_cases hxy : y = x
              · have heq2 := fun (W : World) => HEQ.out W y
                rw [decide_eq_true hxy] at heq2
                have hgd2 := HGD.out
                obtain ⟨c0, c1, c2, c3, c4, c5, b0, b1, b2, b3, b4, b5⟩ := KEEP.out WX HX5.out
                have HINS : Hid (insG lt6 l x = l) := Lib.hid (by
                  rw [insG_at hk HLOW.out (fun z hz => by rw [HY.out] at hz; cases hz; exact HLT.out), if_pos (by rw [HY.out, hxy])])
                clear hxy
                go_wp2_with fail
                go_quiet (fail)
                go_wp2_with fail
                go_ret
                refine ⟨⟨some ⟨g, 0, none⟩, cap, ?_, ?_⟩, (FW.out.trans HX5.out (by simp)).drewN _⟩
                · rw [HINS.out]; rfl
                · rw [HINS.out]; exact ownsB_frm OW.out (HX5.out.drewN _) (by simp)
              · have heq2 := fun (W : World) => HEQ.out W y
                rw [decide_eq_false hxy] at heq2
                have hgd2 := HGD.out
                have HINS : Hid (insG lt6 l x = l.take k ++ x :: l.drop k) := Lib.hid (by
                  rw [insG_at hk HLOW.out (fun z hz => by rw [HY.out] at hz; cases hz; exact HLT.out), if_neg (by rw [HY.out]; simpa using hxy)])
                clear hxy
                obtain ⟨c0, c1, c2, c3, c4, c5, b0, b1, b2, b3, b4, b5⟩ := KEEP.out WX HX5.out
                go_wp2_with fail
                go_quiet (fail)
                obtain ⟨We, hWe⟩ : ∃ We, We = WX.drewN nq := ⟨_, rfl⟩
                have FXE : Frm [] WX We := by rw [hWe]; exact (Frm.refl [] WX).drewN _
                rw [← hWe]
                have FE := Lib.hid ((FW.out.trans HX5.out (by simp)).trans FXE (by simp))
                have BXE := Lib.hid ((BX.out.frm HX5.out (by simp)).frm FXE (by simp))
                have RL := Lib.hid (rowV_of_owns (F := []) (ownsB_frm (ownsB_frm OW.out HX5.out (by simp)) FXE (by simp)) (by simp))
                have e0 := BXE.out.cell (i := 0) rfl
                have e1 := BXE.out.cell (i := 1) rfl
                have e2 := BXE.out.cell (i := 2) rfl
                have e3 := BXE.out.cell (i := 3) rfl
                have e4 := BXE.out.cell (i := 4) rfl
                have e5 := BXE.out.cell (i := 5) rfl
                clear c0 c1 c2 c3 c4 c5 b0 b1 b2 b3 b4 b5 hWe FXE heq2 hgd2
                go_wp2_with (first
                  | (at_builtin; refine app_row rfl (.tmp 56) (.tmp 59) 97 100 _ 6 48 rfl Try.underlying97 infoEd rfl (by decide) (by decide) We.heap.size 0 (.slice (some ⟨We.heap.size, 0, none⟩) 0 0) [] rfl (owns_made0 We 100 6) _ k ((l.flatMap enc6).take (k * 6)) [] rfl ((RL.out.init (by omega)).nil ((Frm.refl [] We).alloc _)) (fun u hu => enc6_one l u (List.mem_of_mem_take hu)) k (Nat.zero_add _) (by omega) (by simp) ?_; intro a6 c6 w6 own6 hf6 hb6; have F6 : Frm [] We w6 := frm_own ((Frm.refl [] We).alloc _) (owns_made0 We 100 6) (Nat.le_refl _) hf6; have bx6 := BXE.out.frm F6 (by simp); have h6_0 := bx6.cell (i := 0) rfl; have h6_1 := bx6.cell (i := 1) rfl; have h6_2 := bx6.cell (i := 2) rfl; have h6_3 := bx6.cell (i := 3) rfl; have h6_4 := bx6.cell (i := 4) rfl; have h6_5 := bx6.cell (i := 5) rfl)
                  | (at_builtin; refine app_row rfl (.tmp 61) (.tmp 63) 97 100 _ 6 48 rfl Try.underlying97 infoEd rfl (by decide) (by decide) We.heap.size k (.slice a6 k c6) _ rfl (own6.alloc _) _ 1 [.int .i64 x.1, .int .i64 x.2.1, .int .i64 x.2.2.1, .int .i64 x.2.2.2.1, .int .i64 x.2.2.2.2.1, .int .i64 x.2.2.2.2.2] [] rfl (rowV_cells (size := 6) (RowAt.made w6 100 [.int .i64 x.1, .int .i64 x.2.1, .int .i64 x.2.2.1, .int .i64 x.2.2.2.1, .int .i64 x.2.2.2.2.1, .int .i64 x.2.2.2.2.2] #[.int .i64 x.1, .int .i64 x.2.1, .int .i64 x.2.2.1, .int .i64 x.2.2.2.1, .int .i64 x.2.2.2.2.1, .int .i64 x.2.2.2.2.2] rfl) rfl (Nat.le_refl _) (by decide) (by simp)) (one6 x) (k + 1) rfl (by omega) (by have := F6.size; simp; omega) ?_; intro a7 c7 w7 own7 hf7 hb7; have F7 : Frm [] We w7 := frm_own (F6.alloc _) (own6.alloc _) (Nat.le_refl _) hf7)
                  | (at_builtin; refine app_row rfl (.tmp 65) (.tmp 68) 97 100 _ 6 48 rfl Try.underlying97 infoEd rfl (by decide) (by decide) We.heap.size (k + 1) (.slice a7 (k + 1) c7) _ rfl own7 _ (l.length - k) ((l.flatMap enc6).drop (k * 6)) [] rfl ((RL.out.tail k).nil F7) (fun u hu => enc6_one l u (List.mem_of_mem_drop hu)) (l.length + 1) (by omega) (by omega) F7.size ?_; intro a8 c8 w8 own8 hf8 hb8; have F8 : Frm [] We w8 := frm_own F7 own7 (Nat.le_refl _) hf8)
                  | fail)
                go_ret
                have hln : (insG lt6 l x).length = l.length + 1 := by
                  rw [HINS.out, List.length_append, List.length_cons, List.length_take, List.length_drop, Nat.min_eq_left (by omega)]
                  omega
                refine ⟨⟨a8, c8, ?_, ?_⟩, FE.out.trans F8 (by simp)⟩
                · rw [hln]; rfl
                · have hb := ownsB_mono own8 (show B ≤ We.heap.size by have := FE.out.size; omega)
                  rw [hln, HINS.out, List.flatMap_append, List.flatMap_cons, ← fm_take (enc := enc6) (k := 6) (fun _ => rfl) l k, ← fm_drop (enc := enc6) (k := 6) (fun _ => rfl) l k]
                  rw [List.nil_append, List.append_assoc] at hb
                  exact hb
          · have je : (y.1 == x.1) = false := by simpa using h2
            have HLT : Hid (lt6 y x = false) := Lib.hid (by
              rw [Bool.eq_false_iff]
              intro h9
              rcases (ltN_iff (toM y) (toM x)).1 h9 with h9 | h9
              · exact h1 h9
              · exact h2 h9.1)
            clear h1 h2
            go_wp2_with fail
            go_quiet (fail)
            obtain ⟨WX, hWX⟩ : ∃ WX, WX = wr.drewN nq := ⟨_, rfl⟩
            have HX5 := Lib.hid (show Frm [] wr WX by rw [hWX]; exact (Frm.refl [] wr).drewN _)
            rw [← hWX]
            clear hWX c0 c1 c2 c3 c4 c5 b0 b1 b2 b3 b4 b5
            by_cases hxy : y = x
            · have heq2 := fun (W : World) => HEQ.out W y
              rw [decide_eq_true hxy] at heq2
              have hgd2 := HGD.out
              obtain ⟨c0, c1, c2, c3, c4, c5, b0, b1, b2, b3, b4, b5⟩ := KEEP.out WX HX5.out
              have HINS : Hid (insG lt6 l x = l) := Lib.hid (by
                rw [insG_at hk HLOW.out (fun z hz => by rw [HY.out] at hz; cases hz; exact HLT.out), if_pos (by rw [HY.out, hxy])])
              clear hxy
              go_wp2_with fail
              go_quiet (fail)
              go_wp2_with fail
              go_ret
              refine ⟨⟨some ⟨g, 0, none⟩, cap, ?_, ?_⟩, (FW.out.trans HX5.out (by simp)).drewN _⟩
              · rw [HINS.out]; rfl
              · rw [HINS.out]; exact ownsB_frm OW.out (HX5.out.drewN _) (by simp)
            · have heq2 := fun (W : World) => HEQ.out W y
              rw [decide_eq_false hxy] at heq2
              have hgd2 := HGD.out
              have HINS : Hid (insG lt6 l x = l.take k ++ x :: l.drop k) := Lib.hid (by
                rw [insG_at hk HLOW.out (fun z hz => by rw [HY.out] at hz; cases hz; exact HLT.out), if_neg (by rw [HY.out]; simpa using hxy)])
              clear hxy
              obtain ⟨c0, c1, c2, c3, c4, c5, b0, b1, b2, b3, b4, b5⟩ := KEEP.out WX HX5.out
              go_wp2_with fail
              go_quiet (fail)
              obtain ⟨We, hWe⟩ : ∃ We, We = WX.drewN nq := ⟨_, rfl⟩
              have FXE : Frm [] WX We := by rw [hWe]; exact (Frm.refl [] WX).drewN _
              rw [← hWe]
              have FE := Lib.hid ((FW.out.trans HX5.out (by simp)).trans FXE (by simp))
              have BXE := Lib.hid ((BX.out.frm HX5.out (by simp)).frm FXE (by simp))
              have RL := Lib.hid (rowV_of_owns (F := []) (ownsB_frm (ownsB_frm OW.out HX5.out (by simp)) FXE (by simp)) (by simp))
              have e0 := BXE.out.cell (i := 0) rfl
              have e1 := BXE.out.cell (i := 1) rfl
              have e2 := BXE.out.cell (i := 2) rfl
              have e3 := BXE.out.cell (i := 3) rfl
              have e4 := BXE.out.cell (i := 4) rfl
              have e5 := BXE.out.cell (i := 5) rfl
              clear c0 c1 c2 c3 c4 c5 b0 b1 b2 b3 b4 b5 hWe FXE heq2 hgd2
              go_wp2_with (first
                | (at_builtin; refine app_row rfl (.tmp 56) (.tmp 59) 97 100 _ 6 48 rfl Try.underlying97 infoEd rfl (by decide) (by decide) We.heap.size 0 (.slice (some ⟨We.heap.size, 0, none⟩) 0 0) [] rfl (owns_made0 We 100 6) _ k ((l.flatMap enc6).take (k * 6)) [] rfl ((RL.out.init (by omega)).nil ((Frm.refl [] We).alloc _)) (fun u hu => enc6_one l u (List.mem_of_mem_take hu)) k (Nat.zero_add _) (by omega) (by simp) ?_; intro a6 c6 w6 own6 hf6 hb6; have F6 : Frm [] We w6 := frm_own ((Frm.refl [] We).alloc _) (owns_made0 We 100 6) (Nat.le_refl _) hf6; have bx6 := BXE.out.frm F6 (by simp); have h6_0 := bx6.cell (i := 0) rfl; have h6_1 := bx6.cell (i := 1) rfl; have h6_2 := bx6.cell (i := 2) rfl; have h6_3 := bx6.cell (i := 3) rfl; have h6_4 := bx6.cell (i := 4) rfl; have h6_5 := bx6.cell (i := 5) rfl)
                | (at_builtin; refine app_row rfl (.tmp 61) (.tmp 63) 97 100 _ 6 48 rfl Try.underlying97 infoEd rfl (by decide) (by decide) We.heap.size k (.slice a6 k c6) _ rfl (own6.alloc _) _ 1 [.int .i64 x.1, .int .i64 x.2.1, .int .i64 x.2.2.1, .int .i64 x.2.2.2.1, .int .i64 x.2.2.2.2.1, .int .i64 x.2.2.2.2.2] [] rfl (rowV_cells (size := 6) (RowAt.made w6 100 [.int .i64 x.1, .int .i64 x.2.1, .int .i64 x.2.2.1, .int .i64 x.2.2.2.1, .int .i64 x.2.2.2.2.1, .int .i64 x.2.2.2.2.2] #[.int .i64 x.1, .int .i64 x.2.1, .int .i64 x.2.2.1, .int .i64 x.2.2.2.1, .int .i64 x.2.2.2.2.1, .int .i64 x.2.2.2.2.2] rfl) rfl (Nat.le_refl _) (by decide) (by simp)) (one6 x) (k + 1) rfl (by omega) (by have := F6.size; simp; omega) ?_; intro a7 c7 w7 own7 hf7 hb7; have F7 : Frm [] We w7 := frm_own (F6.alloc _) (own6.alloc _) (Nat.le_refl _) hf7)
                | (at_builtin; refine app_row rfl (.tmp 65) (.tmp 68) 97 100 _ 6 48 rfl Try.underlying97 infoEd rfl (by decide) (by decide) We.heap.size (k + 1) (.slice a7 (k + 1) c7) _ rfl own7 _ (l.length - k) ((l.flatMap enc6).drop (k * 6)) [] rfl ((RL.out.tail k).nil F7) (fun u hu => enc6_one l u (List.mem_of_mem_drop hu)) (l.length + 1) (by omega) (by omega) F7.size ?_; intro a8 c8 w8 own8 hf8 hb8; have F8 : Frm [] We w8 := frm_own F7 own7 (Nat.le_refl _) hf8)
                | fail)
              go_ret
              have hln : (insG lt6 l x).length = l.length + 1 := by
                rw [HINS.out, List.length_append, List.length_cons, List.length_take, List.length_drop, Nat.min_eq_left (by omega)]
                omega
              refine ⟨⟨a8, c8, ?_, ?_⟩, FE.out.trans F8 (by simp)⟩
              · rw [hln]; rfl
              · have hb := ownsB_mono own8 (show B ≤ We.heap.size by have := FE.out.size; omega)
                rw [hln, HINS.out, List.flatMap_append, List.flatMap_cons, ← fm_take (enc := enc6) (k := 6) (fun _ => rfl) l k, ← fm_drop (enc := enc6) (k := 6) (fun _ => rfl) l k]
                rw [List.nil_append, List.append_assoc] at hb
                exact hb
      · have i5 : ¬ (k : Int) < (l.length : Int) := by omega
        have jd : decide (k < l.length) = false := decide_eq_false hlt
        have i6 : (k : Int) ≤ (cap : Int) := by omega
        have HINS : Hid (insG lt6 l x = l.take k ++ x :: l.drop k) := Lib.hid (by
          rw [insG_at hk HLOW.out (fun z hz => by rw [List.getElem?_eq_none (by omega)] at hz; cases hz), if_neg (by rw [List.getElem?_eq_none (by omega)]; simp)])
        go_wp2_with fail
        go_quiet (fail)
        go_wp2_with fail
        obtain ⟨W2, hW2⟩ : ∃ W2, W2 = wr.drewN nq := ⟨_, rfl⟩
        have F2 : Frm [] wr W2 := by rw [hW2]; exact (Frm.refl [] wr).drewN _
        rw [← hW2]
        clear hW2
        go_quiet (fail)
        obtain ⟨We, hWe⟩ : ∃ We, We = W2.drewN nq := ⟨_, rfl⟩
        have F3 : Frm [] W2 We := by rw [hWe]; exact (Frm.refl [] W2).drewN _
        rw [← hWe]
        have FE := Lib.hid ((FW.out.trans F2 (by simp)).trans F3 (by simp))
        have BXE := Lib.hid ((BX.out.frm F2 (by simp)).frm F3 (by simp))
        have RL := Lib.hid (rowV_of_owns (F := []) (ownsB_frm (ownsB_frm OW.out F2 (by simp)) F3 (by simp)) (by simp))
        have e0 := BXE.out.cell (i := 0) rfl
        have e1 := BXE.out.cell (i := 1) rfl
        have e2 := BXE.out.cell (i := 2) rfl
        have e3 := BXE.out.cell (i := 3) rfl
        have e4 := BXE.out.cell (i := 4) rfl
        have e5 := BXE.out.cell (i := 5) rfl
        clear hWe F2 F3 b0 b1 b2 b3 b4 b5
        rcases Nat.lt_or_eq_of_le (show k ≤ cap by omega) with hkc | hkc
        · have i7 : (k : Int) < (cap : Int) := by omega
          have i8 : ¬ cap = k := by omega
          have i9 : ¬ k = cap := by omega
          go_wp2_with (first
            | (at_builtin; refine app_row rfl (.tmp 56) (.tmp 59) 97 100 _ 6 48 rfl Try.underlying97 infoEd rfl (by decide) (by decide) We.heap.size 0 (.slice (some ⟨We.heap.size, 0, none⟩) 0 0) [] rfl (owns_made0 We 100 6) _ k ((l.flatMap enc6).take (k * 6)) [] rfl ((RL.out.init (by omega)).nil ((Frm.refl [] We).alloc _)) (fun u hu => enc6_one l u (List.mem_of_mem_take hu)) k (Nat.zero_add _) (by omega) (by simp) ?_; intro a6 c6 w6 own6 hf6 hb6; have F6 : Frm [] We w6 := frm_own ((Frm.refl [] We).alloc _) (owns_made0 We 100 6) (Nat.le_refl _) hf6; have bx6 := BXE.out.frm F6 (by simp); have h6_0 := bx6.cell (i := 0) rfl; have h6_1 := bx6.cell (i := 1) rfl; have h6_2 := bx6.cell (i := 2) rfl; have h6_3 := bx6.cell (i := 3) rfl; have h6_4 := bx6.cell (i := 4) rfl; have h6_5 := bx6.cell (i := 5) rfl)
            | (at_builtin; refine app_row rfl (.tmp 61) (.tmp 63) 97 100 _ 6 48 rfl Try.underlying97 infoEd rfl (by decide) (by decide) We.heap.size k (.slice a6 k c6) _ rfl (own6.alloc _) _ 1 [.int .i64 x.1, .int .i64 x.2.1, .int .i64 x.2.2.1, .int .i64 x.2.2.2.1, .int .i64 x.2.2.2.2.1, .int .i64 x.2.2.2.2.2] [] rfl (rowV_cells (size := 6) (RowAt.made w6 100 [.int .i64 x.1, .int .i64 x.2.1, .int .i64 x.2.2.1, .int .i64 x.2.2.2.1, .int .i64 x.2.2.2.2.1, .int .i64 x.2.2.2.2.2] #[.int .i64 x.1, .int .i64 x.2.1, .int .i64 x.2.2.1, .int .i64 x.2.2.2.1, .int .i64 x.2.2.2.2.1, .int .i64 x.2.2.2.2.2] rfl) rfl (Nat.le_refl _) (by decide) (by simp)) (one6 x) (k + 1) rfl (by omega) (by have := F6.size; simp; omega) ?_; intro a7 c7 w7 own7 hf7 hb7; have F7 : Frm [] We w7 := frm_own (F6.alloc _) (own6.alloc _) (Nat.le_refl _) hf7)
            | (at_builtin; refine app_row rfl (.tmp 65) (.tmp 68) 97 100 _ 6 48 rfl Try.underlying97 infoEd rfl (by decide) (by decide) We.heap.size (k + 1) (.slice a7 (k + 1) c7) _ rfl own7 _ (l.length - k) ((l.flatMap enc6).drop (k * 6)) [] rfl ((RL.out.tail k).nil F7) (fun u hu => enc6_one l u (List.mem_of_mem_drop hu)) (l.length + 1) (by omega) (by omega) F7.size ?_; intro a8 c8 w8 own8 hf8 hb8; have F8 : Frm [] We w8 := frm_own F7 own7 (Nat.le_refl _) hf8)
            | fail)
          go_ret
          have hln : (insG lt6 l x).length = l.length + 1 := by
            rw [HINS.out, List.length_append, List.length_cons, List.length_take, List.length_drop, Nat.min_eq_left (by omega)]
            omega
          refine ⟨⟨a8, c8, ?_, ?_⟩, FE.out.trans F8 (by simp)⟩
          · rw [hln]; rfl
          · have hb := ownsB_mono own8 (show B ≤ We.heap.size by have := FE.out.size; omega)
            rw [hln, HINS.out, List.flatMap_append, List.flatMap_cons, ← fm_take (enc := enc6) (k := 6) (fun _ => rfl) l k, ← fm_drop (enc := enc6) (k := 6) (fun _ => rfl) l k]
            rw [List.nil_append, List.append_assoc] at hb
            exact hb
        · obtain rfl : cap = k := hkc.symm
          have HD0 : Hid ((l.flatMap enc6).drop (cap * 6) = []) := Lib.hid (by rw [fm_drop (enc := enc6) (k := 6) (fun _ => rfl) l cap, List.drop_eq_nil_of_le (by omega)]; rfl)
          clear hkc
          go_wp2_with (first
            | (at_builtin; refine app_row rfl (.tmp 56) (.tmp 59) 97 100 _ 6 48 rfl Try.underlying97 infoEd rfl (by decide) (by decide) We.heap.size 0 (.slice (some ⟨We.heap.size, 0, none⟩) 0 0) [] rfl (owns_made0 We 100 6) _ cap ((l.flatMap enc6).take (cap * 6)) [] rfl ((RL.out.init (by omega)).nil ((Frm.refl [] We).alloc _)) (fun u hu => enc6_one l u (List.mem_of_mem_take hu)) cap (Nat.zero_add _) (by omega) (by simp) ?_; intro a6 c6 w6 own6 hf6 hb6; have F6 : Frm [] We w6 := frm_own ((Frm.refl [] We).alloc _) (owns_made0 We 100 6) (Nat.le_refl _) hf6; have bx6 := BXE.out.frm F6 (by simp); have h6_0 := bx6.cell (i := 0) rfl; have h6_1 := bx6.cell (i := 1) rfl; have h6_2 := bx6.cell (i := 2) rfl; have h6_3 := bx6.cell (i := 3) rfl; have h6_4 := bx6.cell (i := 4) rfl; have h6_5 := bx6.cell (i := 5) rfl)
            | (at_builtin; refine app_row rfl (.tmp 61) (.tmp 63) 97 100 _ 6 48 rfl Try.underlying97 infoEd rfl (by decide) (by decide) We.heap.size cap (.slice a6 cap c6) _ rfl (own6.alloc _) _ 1 [.int .i64 x.1, .int .i64 x.2.1, .int .i64 x.2.2.1, .int .i64 x.2.2.2.1, .int .i64 x.2.2.2.2.1, .int .i64 x.2.2.2.2.2] [] rfl (rowV_cells (size := 6) (RowAt.made w6 100 [.int .i64 x.1, .int .i64 x.2.1, .int .i64 x.2.2.1, .int .i64 x.2.2.2.1, .int .i64 x.2.2.2.2.1, .int .i64 x.2.2.2.2.2] #[.int .i64 x.1, .int .i64 x.2.1, .int .i64 x.2.2.1, .int .i64 x.2.2.2.1, .int .i64 x.2.2.2.2.1, .int .i64 x.2.2.2.2.2] rfl) rfl (Nat.le_refl _) (by decide) (by simp)) (one6 x) (cap + 1) rfl (by omega) (by have := F6.size; simp; omega) ?_; intro a7 c7 w7 own7 hf7 hb7; have F7 : Frm [] We w7 := frm_own (F6.alloc _) (own6.alloc _) (Nat.le_refl _) hf7)
            | (at_builtin; refine app_row rfl (.tmp 65) (.tmp 68) 97 100 _ 6 48 rfl Try.underlying97 infoEd rfl (by decide) (by decide) We.heap.size (cap + 1) (.slice a7 (cap + 1) c7) _ rfl own7 _ (l.length - cap) ((l.flatMap enc6).drop (cap * 6)) [] rfl ((by rw [HD0.out]; exact RowV.zero _ _ _ _ _ _ (by omega) (Nat.zero_le _))) (fun u hu => enc6_one l u (List.mem_of_mem_drop hu)) (l.length + 1) (by omega) (by omega) F7.size ?_; intro a8 c8 w8 own8 hf8 hb8; have F8 : Frm [] We w8 := frm_own F7 own7 (Nat.le_refl _) hf8)
            | fail)
          go_ret
          have hln : (insG lt6 l x).length = l.length + 1 := by
            rw [HINS.out, List.length_append, List.length_cons, List.length_take, List.length_drop, Nat.min_eq_left (by omega)]
            omega
          refine ⟨⟨a8, c8, ?_, ?_⟩, FE.out.trans F8 (by simp)⟩
          · rw [hln]; rfl
          · have hb := ownsB_mono own8 (show B ≤ We.heap.size by have := FE.out.size; omega)
            rw [hln, HINS.out, List.flatMap_append, List.flatMap_cons, ← fm_take (enc := enc6) (k := 6) (fun _ => rfl) l cap, ← fm_drop (enc := enc6) (k := 6) (fun _ => rfl) l cap]
            rw [List.nil_append, List.append_assoc] at hb
            exact hb

end Go.Proofs.Ytfndgiinniibfaa.Ind
