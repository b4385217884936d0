/- Texts KP, KQ, KR, KT. -/
import Derived.Test.YtdknbgejhhoaiaaGreatQ21
import Derived.Deep.RegionHeld3
/- Contract of the reference's less. (Printed by wip/tools/kp.py.) -/
namespace Go.Proofs.YtdknbgejhhoaiaaGreat.Ind
open Go.Shelf Go.RowKit Go.Lib Go.Sort

end Go.Proofs.YtdknbgejhhoaiaaGreat.Ind

/- Contract of the reference's insert. (Printed by wip/tools/kq.py.) -/
namespace Go.Proofs.YtdknbgejhhoaiaaGreat.Ind
open Go.Shelf Go.RowKit Go.Lib Go.Sort

theorem insG_at {α : Type} [DecidableEq α] {lt : α → α → Bool} : ∀ {l : List α} {x : α} {k : Nat}, k ≤ l.length → (∀ (i : Nat) (y : α), i < k → l[i]? = some y → lt y x = true) → (∀ y, l[k]? = some y → lt y x = false) →
    insG lt l x = if l[k]? = some x then l else l.take k ++ x :: l.drop k
  | [], x, k, h, _, _ => by
    have : k = 0 := by simpa using h
    subst this
    simp [insG]
  | a :: r, x, 0, _, _, h2 => by
    have h3 := h2 a rfl
    rw [insG, if_neg (by rw [h3]; simp)]
    by_cases e : a = x
    · rw [if_pos e, if_pos (by rw [List.getElem?_cons_zero, e])]
    · rw [if_neg e, if_neg (by rw [List.getElem?_cons_zero]; simpa using e)]
      rfl
  | a :: r, x, k + 1, h, h1, h2 => by
    have h3 := h1 0 a (Nat.succ_pos _) rfl
    have ih := insG_at (l := r) (x := x) (k := k) (by simpa using h) (fun i y hi hy => h1 (i + 1) y (by omega) (by simpa using hy)) (fun y hy => h2 y (by simpa using hy))
    rw [insG, if_pos h3, ih, List.getElem?_cons_succ]
    split <;> simp
def lt6 (x y : M6) : Bool := ltM (toM x) (toM y)
theorem ins_map (l : List M6) (x : M6) : (insG lt6 l x).map toM = insG ltM (l.map toM) (toM x) := by
  induction l with
  | nil => rfl
  | cons a r ih =>
    rw [insG, List.map_cons, insG]
    by_cases h : ltM (toM a) (toM x) = true
    · rw [if_pos h, if_pos (show lt6 a x = true from h), List.map_cons, ih]
    · rw [if_neg h, if_neg (show ¬ lt6 a x = true from h)]
      by_cases e : a = x
      · rw [if_pos e, if_pos (by rw [e])]; rfl
      · rw [if_neg e, if_neg (fun h9 => e (toM_inj h9))]; rfl
theorem enc6_one (l : List M6) : ∀ u ∈ l.flatMap enc6, u.oneCell' = true := fun u hu => by
  obtain ⟨x, _, hx⟩ := List.mem_flatMap.1 hu
  exact one6 x u hx
end Go.Proofs.YtdknbgejhhoaiaaGreat.Ind

/- Contract of the reference's insert. (Printed by wip/tools/kr.py.) -/
namespace Go.Proofs.YtdknbgejhhoaiaaGreat.Ind
open Go.Shelf Go.RowKit Go.Lib Go.Sort

theorem fm_take {α : Type} {enc : α → List Value} {k : Nat} (hk : ∀ x, (enc x).length = k) (l : List α) (i : Nat) : (l.flatMap enc).take (i * k) = (l.take i).flatMap enc := by
  have h := flatMap_len (enc := enc) (k := k) hk
  by_cases hi : i ≤ l.length
  · have e : l.flatMap enc = (l.take i).flatMap enc ++ (l.drop i).flatMap enc := by rw [← List.flatMap_append, List.take_append_drop]
    rw [e, List.take_left' (by rw [h, List.length_take, Nat.min_eq_left hi])]
  · rw [List.take_of_length_le (by rw [h]; exact Nat.mul_le_mul_right k (by omega)), List.take_of_length_le (by omega)]
theorem fm_drop {α : Type} {enc : α → List Value} {k : Nat} (hk : ∀ x, (enc x).length = k) (l : List α) (i : Nat) : (l.flatMap enc).drop (i * k) = (l.drop i).flatMap enc := by
  have h := flatMap_len (enc := enc) (k := k) hk
  by_cases hi : i ≤ l.length
  · have e : l.flatMap enc = (l.take i).flatMap enc ++ (l.drop i).flatMap enc := by rw [← List.flatMap_append, List.take_append_drop]
    rw [e, List.drop_left' (by rw [h, List.length_take, Nat.min_eq_left hi])]
  · rw [List.drop_eq_nil_of_le (by rw [h]; exact Nat.mul_le_mul_right k (by omega)), List.drop_eq_nil_of_le (by omega)]; rfl
theorem cellsK {α : Type} {enc : α → List Value} {k : Nat} (hk : ∀ x, (enc x).length = k) {w : World} {B e n cap g : Nat} {l : List α} (h : w.ownsRow B e k (.slice (some ⟨g, 0, none⟩) n cap) n (l.flatMap enc)) (hn : 0 < n) {i : Nat} {x : α} (hx : l[i]? = some x) : ∀ (j : Nat) (u : Value), j < k → (enc x)[j]? = some u → w.cell? ⟨g, i * k + j, none⟩ = some u := by
  intro j u hj hu
  obtain ⟨g', cap', e, _, _, _, hr⟩ := ownsB_some h hn
  cases e
  exact hr.cell (by rw [flatMap_get (enc := enc) (k := k) hk hx j hj]; exact hu)
end Go.Proofs.YtdknbgejhhoaiaaGreat.Ind

/- Contract of the reference's Insert. (Printed by wip/tools/kr.py.) -/
namespace Go.Proofs.YtdknbgejhhoaiaaGreat.Ind
open Go.Shelf Go.RowKit Go.Lib Go.Sort

theorem eqAr (w : World) (x y : Ar) : (Op.equalIn 10000 55 (.agg (arE x).toArray) (.agg (arE y).toArray)).run Tryz.prog w = .ok (decide (x = y)) w := by
  have u3 := Tryz.underlying3
  have hS : Tryz.prog.underlying 55 = some (.struct (Tryz.prog.fieldsOf 55)) := by kernel_rfl
  have hp : Tryz.prog.stoodInHeld 55 = false := by kernel_rfl
  obtain ⟨n, hn⟩ : ∃ n, 10000 = n + 1 + 1 := ⟨9998, rfl⟩
  obtain ⟨e, s⟩ := x
  obtain ⟨e', s'⟩ := y
  simp only [arE]
  rw [hn, run_equalIn_agg w _ _ _ _ hS hp]
  clear hn
  simp only [Program.fieldsOf, Tryz.underlying55]
  go_simp
  by_cases h0 : e = e' <;> by_cases h1 : s = s' <;> simp [h0, h1]
theorem guardAr : Tryz.prog.eqGuardType Tryz.prog.depth 55 = false := by kernel_rfl
set_option linter.unusedSimpArgs false in
theorem lessAr_any (x y : Ar) (w : World) : Calls Tryz.prog 44 #[.agg (arE x).toArray, .agg (arE y).toArray] w fun e w' => e = .returned (.bool (ltAr x y)) ∧ Frm [] w w' := by
  obtain ⟨e, t⟩ := x
  obtain ⟨f, u⟩ := y
  have f0 : Frm [] w (((w.alloc (.cells #[.int .i64 e, .int .i64 t] 55)).alloc (.cells #[.int .i64 f, .int .i64 u] 55))) := (((Frm.refl [] w).alloc _).alloc _)
  unfold arE
  simp only
  rcases (show e < f ∨ (¬ e < f ∧ e ≠ f) ∨ (e = f ∧ t < u) ∨ (e = f ∧ ¬ t < u) by omega) with h | ⟨h, h2⟩ | ⟨rfl, h⟩ | ⟨rfl, h⟩
  · have H : Hid (ltAr (e, t) (f, u) = true) := Lib.hid (by simp [ltAr, ltN, h])
    go_enter Tryz.func44, Tryz.ntmps44
    go_wp2_with fail
    go_ret
    exact ⟨by rw [H.out]; rfl, f0⟩
  · have H : Hid (ltAr (e, t) (f, u) = false) := Lib.hid (by simp [ltAr, ltN, h2]; omega)
    have h4 : (e == f) = false := by simpa using h2
    go_enter Tryz.func44, Tryz.ntmps44
    go_wp2_with fail
    go_ret
    exact ⟨by rw [H.out]; rfl, f0⟩
  · have H : Hid (ltAr (e, t) (e, u) = true) := Lib.hid (by simp [ltAr, ltN, h])
    go_enter Tryz.func44, Tryz.ntmps44
    go_wp2_with fail
    go_ret
    exact ⟨by rw [H.out]; rfl, f0⟩
  · have H : Hid (ltAr (e, t) (e, u) = false) := Lib.hid (by simp [ltAr, ltN]; omega)
    go_enter Tryz.func44, Tryz.ntmps44
    go_wp2_with fail
    go_ret
    exact ⟨by rw [H.out]; rfl, f0⟩
set_option linter.unusedSimpArgs false in
set_option maxRecDepth 100000 in
set_option maxHeartbeats 8000000 in
theorem insA_any (B : Nat) (a : Option Addr) (cap : Nat) (l : List Ar) (x : Ar) (w : World) (h : w.ownsRow B 55 2 (.slice a l.length cap) l.length (l.flatMap arE)) (hz : l = [] → a = none ∧ cap = 0) (hl : l.length ≤ 1000000) (hB : B ≤ w.heap.size) :
    Calls Tryz.prog 18 #[.slice a l.length cap, .agg (arE x).toArray] w fun e w' => (∃ a' cp', e = .returned (.slice a' (insG ltAr l x).length cp') ∧ w'.ownsRow B 55 2 (.slice a' (insG ltAr l x).length cp') (insG ltAr l x).length ((insG ltAr l x).flatMap arE) ∧ ∀ b, (Value.slice a' (insG ltAr l x).length cp').ownBlock = some b → (Value.slice a l.length cap).ownBlock = some b ∨ w.heap.size ≤ b) ∧ Frm [] w w' := by
  have heq := fun w y => eqAr w y x
  have hgd := guardAr
  unfold arE at heq
  have hbx := RowAt.made w 55 [.int .i64 x.1, .int .i64 x.2] #[.int .i64 x.1, .int .i64 x.2] rfl
  have f0 : Frm [] w (w.alloc (.cells #[.int .i64 x.1, .int .i64 x.2] 55)) := (Frm.refl [] w).alloc _
  by_cases hnil : l = []
  · obtain ⟨rfl, rfl⟩ := hz hnil
    subst hnil
    have HBX := Lib.hid hbx
    have F0 := Lib.hid f0
    clear h hz hl heq hgd f0 hbx
    rw [show (arE x).toArray = #[.int .i64 x.1, .int .i64 x.2] from rfl]
    simp only [List.length_nil]
    go_enter Tryz.func18, Tryz.ntmps18
    go_wp2_with fail
    generalize hW1 : w.alloc (.cells #[.int .i64 x.1, .int .i64 x.2] 55) = W1 at *
    clear hW1
    refine wp_loop_rounds 1 ?_
    rw [rounds_succ]
    go_wp2_with fail
    go_quiet (fail)
    go_wp2_with fail
    obtain ⟨W2, hW2⟩ : ∃ W2, W2 = W1.drewN nq := ⟨_, rfl⟩
    have F2 : Frm [] W1 W2 := by rw [hW2]; exact (Frm.refl [] W1).drewN _
    rw [← hW2]
    clear hW2
    go_quiet (fail)
    obtain ⟨We, hWe⟩ : ∃ We, We = W2.drewN nq := ⟨_, rfl⟩
    have F3 : Frm [] W2 We := by rw [hWe]; exact (Frm.refl [] W2).drewN _
    rw [← hWe]
    have FE := Lib.hid ((F0.out.trans F2 (by simp)).trans F3 (by simp))
    have BXE := Lib.hid ((HBX.out.frm F2 (by simp)).frm F3 (by simp))
    have e0 := BXE.out.cell (i := 0) rfl
    have e1 := BXE.out.cell (i := 1) rfl
    clear hWe F2 F3
    go_wp2_with (first
      | (at_builtin; refine app_row rfl (.tmp 34) (.tmp 37) 51 55 _ 2 16 rfl Tryz.underlying51 infoAr rfl (by decide) (by decide) We.heap.size 0 (.slice (some ⟨We.heap.size, 0, none⟩) 0 0) [] rfl (owns_made0 We 55 2) _ 0 [] [] rfl (RowV.nil0 _ _ _) (by simp) 0 (Nat.zero_add _) (by omega) (by simp) ?_; intro a6 c6 w6 own6 hf6 hb6; have F6 : Frm [] We w6 := frm_own ((Frm.refl [] We).alloc _) (owns_made0 We 55 2) (Nat.le_refl _) hf6; have bx6 := BXE.out.frm F6 (by simp); have h6_0 := bx6.cell (i := 0) rfl; have h6_1 := bx6.cell (i := 1) rfl)
      | (at_builtin; refine app_row rfl (.tmp 39) (.tmp 41) 51 55 _ 2 16 rfl Tryz.underlying51 infoAr rfl (by decide) (by decide) We.heap.size 0 (.slice a6 0 c6) _ rfl (own6.alloc _) _ 1 [.int .i64 x.1, .int .i64 x.2] [] rfl (rowV_cells (size := 2) (RowAt.made w6 55 [.int .i64 x.1, .int .i64 x.2] #[.int .i64 x.1, .int .i64 x.2] rfl) rfl (Nat.le_refl _) (by decide) (by simp)) (oneAr x) 1 rfl (by omega) (by have := F6.size; simp; omega) ?_; intro a7 c7 w7 own7 hf7 hb7; have F7 : Frm [] We w7 := frm_own (F6.alloc _) (own6.alloc _) (Nat.le_refl _) hf7)
      | (at_builtin; refine app_row rfl (.tmp 43) (.tmp 46) 51 55 _ 2 16 rfl Tryz.underlying51 infoAr rfl (by decide) (by decide) We.heap.size 1 (.slice a7 1 c7) _ rfl own7 _ 0 [] [] rfl (RowV.nil0 _ _ _) (by simp) 1 (by omega) (by omega) F7.size ?_; intro a8 c8 w8 own8 hf8 hb8; have F8 : Frm [] We w8 := frm_own F7 own7 (Nat.le_refl _) hf8)
      | fail)
    go_ret
    refine ⟨⟨a8, c8, rfl, ?_, fun b hb => .inr (Nat.le_trans FE.out.size (own8.lt b (by first | exact hb | (rw [hln] at hb; exact hb))).1)⟩, FE.out.trans F8 (by simp)⟩
    have hb := ownsB_mono own8 (show B ≤ We.heap.size by have := FE.out.size; omega)
    simpa [insG, arE] using hb
  · have hpos : 0 < l.length := List.length_pos_iff.2 hnil
    obtain ⟨g, cp, e0, hgB, hcap, hmax, hrow⟩ := ownsB_some h hpos
    obtain ⟨rfl, rfl⟩ : a = some ⟨g, 0, none⟩ ∧ cap = cp := by simpa using e0
    have HBX := Lib.hid hbx
    have H := Lib.hid h
    have hcl : (cap : Int) ≤ 9223372036854775807 := by unfold maxLen at hmax; omega
    have hlc : (l.length : Int) ≤ (cap : Int) := by omega
    have F0 := Lib.hid f0
    have HEQ := Lib.hid heq
    have HGD := Lib.hid hgd
    clear h hz e0 hbx hrow hmax hcap hnil f0 heq hgd
    rw [show (arE x).toArray = #[.int .i64 x.1, .int .i64 x.2] from rfl]
    go_enter Tryz.func18, Tryz.ntmps18
    go_wp2_with fail
    generalize hW1 : w.alloc (.cells #[.int .i64 x.1, .int .i64 x.2] 55) = W1 at *
    clear hW1
    go_loopg [5] l.length (fun q i wr => ∃ (k : Nat), q = l.length - k ∧ k ≤ l.length ∧ i = .int .i64 k ∧ (∀ (i : Nat) (y : Ar), i < k → l[i]? = some y → ltAr y x = true) ∧ Frm [] W1 wr)
    case atStart => exact ⟨0, rfl, Nat.zero_le _, rfl, fun i y hi => absurd hi (Nat.not_lt_zero _), Frm.refl _ _⟩
    case round =>
      obtain ⟨k, hq, hk, rfl, hlow, hF⟩ := hrel
      have HQ := Lib.hid hq
      have HLOW := Lib.hid hlow
      have i4 : (0 : Int) ≤ (k : Int) := by omega
      have HF := Lib.hid hF
      have FW := Lib.hid (F0.out.trans hF (by simp))
      have BX := Lib.hid (HBX.out.frm hF (by simp))
      have OW := Lib.hid (ownsB_frm H.out FW.out (by simp))
      clear hq hF hlow
      have b0 := BX.out.cell (i := 0) rfl
      have b1 := BX.out.cell (i := 1) rfl
      by_cases hlt : k < l.length
      · have i5 : (k : Int) < (l.length : Int) := by omega
        have jd : decide (k < l.length) = true := decide_eq_true hlt
        have i6 : (k : Int) ≤ (cap : Int) := by omega
        obtain ⟨y, hy⟩ : ∃ y, l[k]? = some y := ⟨_, List.getElem?_eq_getElem hlt⟩
        have cy := cellsK (enc := arE) (k := 2) (fun _ => rfl) OW.out hpos hy
        unfold arE at cy
        have c0 := cy 0 _ (by omega) rfl
        have c1 := cy 1 _ (by omega) rfl
        rw [Nat.add_zero] at c0
        have HY := Lib.hid hy
        have HC : Hid (wr.cell? ⟨g, k * 2, none⟩ = some (.int .i64 y.1) ∧ wr.cell? ⟨g, k * 2 + 1, none⟩ = some (.int .i64 y.2) ∧ wr.cell? ⟨w.heap.size, 0, none⟩ = some (.int .i64 x.1) ∧ wr.cell? ⟨w.heap.size, 1, none⟩ = some (.int .i64 x.2)) := Lib.hid ⟨c0, c1, b0, b1⟩
        have KEEP : Hid (∀ w', Frm [] wr w' → w'.cell? ⟨g, k * 2, none⟩ = some (.int .i64 y.1) ∧ w'.cell? ⟨g, k * 2 + 1, none⟩ = some (.int .i64 y.2) ∧ w'.cell? ⟨w.heap.size, 0, none⟩ = some (.int .i64 x.1) ∧ w'.cell? ⟨w.heap.size, 1, none⟩ = some (.int .i64 x.2)) := Lib.hid fun w' hf => by
          obtain ⟨h0, h1, h2, h3⟩ := HC.out
          exact ⟨hf.cell h0 (by simp), hf.cell h1 (by simp), hf.cell h2 (by simp), hf.cell h3 (by simp)⟩
        clear cy hy
        have hcall := lessAr_any y x
        unfold arE at hcall
        cases hp : ltAr y x with
        | true =>
          rw [hp] at hcall
          have HLT := Lib.hid hp
          have HC2 := Lib.hid hcall
          clear hcall hp
          go_wp2_with fail
          clear c0 c1 b0 b1
          go_region_held3 (fun w' => w'.cell? ⟨g, k * 2, none⟩ = some (.int .i64 y.1) ∧ w'.cell? ⟨g, k * 2 + 1, none⟩ = some (.int .i64 y.2) ∧ w'.cell? ⟨w.heap.size, 0, none⟩ = some (.int .i64 x.1) ∧ w'.cell? ⟨w.heap.size, 1, none⟩ = some (.int .i64 x.2))
            (first | exact KEEP.out _ (Frm.refl [] wr).drew | exact KEEP.out _ hy5)
            (first | (go_at_call 44; refine (HC2.out _).mono ?_; rintro e5 WX ⟨rfl, hf5⟩; have hy5 := (Frm.refl [] wr).drew.trans hf5 (by simp)))
          have HX5 := Lib.hid hy5
          clear hf5 hy5
          go_wp2_with fail
          go_roundg (l.length - (k + 1))
          case rel =>
            refine ⟨k + 1, rfl, by omega, by go_num, fun i z hi hz => ?_, HF.out.trans HX5.out (by simp)⟩
            by_cases e : i < k
            · exact HLOW.out i z e hz
            · have e2 : i = k := by omega
              rw [e2, HY.out] at hz
              cases hz
              exact HLT.out
          case measure => have := HQ.out; omega
        | false =>
          rw [hp] at hcall
          have HLT := Lib.hid hp
          have HC2 := Lib.hid hcall
          clear hcall hp
          go_wp2_with fail
          clear c0 c1 b0 b1
          go_region_held3 (fun w' => w'.cell? ⟨g, k * 2, none⟩ = some (.int .i64 y.1) ∧ w'.cell? ⟨g, k * 2 + 1, none⟩ = some (.int .i64 y.2) ∧ w'.cell? ⟨w.heap.size, 0, none⟩ = some (.int .i64 x.1) ∧ w'.cell? ⟨w.heap.size, 1, none⟩ = some (.int .i64 x.2))
            (first | exact KEEP.out _ (Frm.refl [] wr).drew | exact KEEP.out _ hy5)
            (first | (go_at_call 44; refine (HC2.out _).mono ?_; rintro e5 WX ⟨rfl, hf5⟩; have hy5 := (Frm.refl [] wr).drew.trans hf5 (by simp)))
          have HX5 := Lib.hid hy5
          clear hf5 hy5
          by_cases hxy : y = x
          · have heq2 := fun (W : World) => HEQ.out W y
            rw [decide_eq_true hxy] at heq2
            have hgd2 := HGD.out
            obtain ⟨c0, c1, b0, b1⟩ := KEEP.out WX HX5.out
            have HINS : Hid (insG ltAr l x = l) := Lib.hid (by
              rw [insG_at hk HLOW.out (fun z hz => by rw [HY.out] at hz; cases hz; exact HLT.out), if_pos (by rw [HY.out, hxy])])
            clear hxy
            go_wp2_with fail
            go_quiet (fail)
            go_wp2_with fail
            go_ret
            refine ⟨⟨some ⟨g, 0, none⟩, cap, ?_, ?_, fun b hb => .inl (by simpa [Value.ownBlock] using hb)⟩, (FW.out.trans HX5.out (by simp)).drewN _⟩
            · rw [HINS.out]; rfl
            · rw [HINS.out]; exact ownsB_frm OW.out (HX5.out.drewN _) (by simp)
          · have heq2 := fun (W : World) => HEQ.out W y
            rw [decide_eq_false hxy] at heq2
            have hgd2 := HGD.out
            have HINS : Hid (insG ltAr l x = l.take k ++ x :: l.drop k) := Lib.hid (by
              rw [insG_at hk HLOW.out (fun z hz => by rw [HY.out] at hz; cases hz; exact HLT.out), if_neg (by rw [HY.out]; simpa using hxy)])
            clear hxy
            obtain ⟨c0, c1, b0, b1⟩ := KEEP.out WX HX5.out
            go_wp2_with fail
            go_quiet (fail)
            obtain ⟨We, hWe⟩ : ∃ We, We = WX.drewN nq := ⟨_, rfl⟩
            have FXE : Frm [] WX We := by rw [hWe]; exact (Frm.refl [] WX).drewN _
            rw [← hWe]
            have FE := Lib.hid ((FW.out.trans HX5.out (by simp)).trans FXE (by simp))
            have BXE := Lib.hid ((BX.out.frm HX5.out (by simp)).frm FXE (by simp))
            have RL := Lib.hid (rowV_of_owns (F := []) (ownsB_frm (ownsB_frm OW.out HX5.out (by simp)) FXE (by simp)) (by simp))
            have e0 := BXE.out.cell (i := 0) rfl
            have e1 := BXE.out.cell (i := 1) rfl
            clear c0 c1 b0 b1 hWe FXE heq2 hgd2
            go_wp2_with (first
              | (at_builtin; refine app_row rfl (.tmp 34) (.tmp 37) 51 55 _ 2 16 rfl Tryz.underlying51 infoAr rfl (by decide) (by decide) We.heap.size 0 (.slice (some ⟨We.heap.size, 0, none⟩) 0 0) [] rfl (owns_made0 We 55 2) _ k ((l.flatMap arE).take (k * 2)) [] rfl ((RL.out.init (by omega)).nil ((Frm.refl [] We).alloc _)) (fun u hu => arE_one l u (List.mem_of_mem_take hu)) k (Nat.zero_add _) (by omega) (by simp) ?_; intro a6 c6 w6 own6 hf6 hb6; have F6 : Frm [] We w6 := frm_own ((Frm.refl [] We).alloc _) (owns_made0 We 55 2) (Nat.le_refl _) hf6; have bx6 := BXE.out.frm F6 (by simp); have h6_0 := bx6.cell (i := 0) rfl; have h6_1 := bx6.cell (i := 1) rfl)
              | (at_builtin; refine app_row rfl (.tmp 39) (.tmp 41) 51 55 _ 2 16 rfl Tryz.underlying51 infoAr rfl (by decide) (by decide) We.heap.size k (.slice a6 k c6) _ rfl (own6.alloc _) _ 1 [.int .i64 x.1, .int .i64 x.2] [] rfl (rowV_cells (size := 2) (RowAt.made w6 55 [.int .i64 x.1, .int .i64 x.2] #[.int .i64 x.1, .int .i64 x.2] rfl) rfl (Nat.le_refl _) (by decide) (by simp)) (oneAr x) (k + 1) rfl (by omega) (by have := F6.size; simp; omega) ?_; intro a7 c7 w7 own7 hf7 hb7; have F7 : Frm [] We w7 := frm_own (F6.alloc _) (own6.alloc _) (Nat.le_refl _) hf7)
              | (at_builtin; refine app_row rfl (.tmp 43) (.tmp 46) 51 55 _ 2 16 rfl Tryz.underlying51 infoAr rfl (by decide) (by decide) We.heap.size (k + 1) (.slice a7 (k + 1) c7) _ rfl own7 _ (l.length - k) ((l.flatMap arE).drop (k * 2)) [] rfl ((RL.out.tail k).nil F7) (fun u hu => arE_one l u (List.mem_of_mem_drop hu)) (l.length + 1) (by omega) (by omega) F7.size ?_; intro a8 c8 w8 own8 hf8 hb8; have F8 : Frm [] We w8 := frm_own F7 own7 (Nat.le_refl _) hf8)
              | fail)
            go_ret
            have hln : (insG ltAr l x).length = l.length + 1 := by
              rw [HINS.out, List.length_append, List.length_cons, List.length_take, List.length_drop, Nat.min_eq_left (by omega)]
              omega
            refine ⟨⟨a8, c8, ?_, ?_, fun b hb => .inr (Nat.le_trans FE.out.size (own8.lt b (by first | exact hb | (rw [hln] at hb; exact hb))).1)⟩, FE.out.trans F8 (by simp)⟩
            · rw [hln]; rfl
            · have hb := ownsB_mono own8 (show B ≤ We.heap.size by have := FE.out.size; omega)
              rw [hln, HINS.out, List.flatMap_append, List.flatMap_cons, ← fm_take (enc := arE) (k := 2) (fun _ => rfl) l k, ← fm_drop (enc := arE) (k := 2) (fun _ => rfl) l k]
              rw [List.nil_append, List.append_assoc] at hb
              exact hb
      · have i5 : ¬ (k : Int) < (l.length : Int) := by omega
        have jd : decide (k < l.length) = false := decide_eq_false hlt
        have i6 : (k : Int) ≤ (cap : Int) := by omega
        have HINS : Hid (insG ltAr l x = l.take k ++ x :: l.drop k) := Lib.hid (by
          rw [insG_at hk HLOW.out (fun z hz => by rw [List.getElem?_eq_none (by omega)] at hz; cases hz), if_neg (by rw [List.getElem?_eq_none (by omega)]; simp)])
        go_wp2_with fail
        go_quiet (fail)
        go_wp2_with fail
        obtain ⟨W2, hW2⟩ : ∃ W2, W2 = wr.drewN nq := ⟨_, rfl⟩
        have F2 : Frm [] wr W2 := by rw [hW2]; exact (Frm.refl [] wr).drewN _
        rw [← hW2]
        clear hW2
        go_quiet (fail)
        obtain ⟨We, hWe⟩ : ∃ We, We = W2.drewN nq := ⟨_, rfl⟩
        have F3 : Frm [] W2 We := by rw [hWe]; exact (Frm.refl [] W2).drewN _
        rw [← hWe]
        have FE := Lib.hid ((FW.out.trans F2 (by simp)).trans F3 (by simp))
        have BXE := Lib.hid ((BX.out.frm F2 (by simp)).frm F3 (by simp))
        have RL := Lib.hid (rowV_of_owns (F := []) (ownsB_frm (ownsB_frm OW.out F2 (by simp)) F3 (by simp)) (by simp))
        have e0 := BXE.out.cell (i := 0) rfl
        have e1 := BXE.out.cell (i := 1) rfl
        clear hWe F2 F3 b0 b1
        rcases Nat.lt_or_eq_of_le (show k ≤ cap by omega) with hkc | hkc
        · have i7 : (k : Int) < (cap : Int) := by omega
          have i8 : ¬ cap = k := by omega
          have i9 : ¬ k = cap := by omega
          go_wp2_with (first
            | (at_builtin; refine app_row rfl (.tmp 34) (.tmp 37) 51 55 _ 2 16 rfl Tryz.underlying51 infoAr rfl (by decide) (by decide) We.heap.size 0 (.slice (some ⟨We.heap.size, 0, none⟩) 0 0) [] rfl (owns_made0 We 55 2) _ k ((l.flatMap arE).take (k * 2)) [] rfl ((RL.out.init (by omega)).nil ((Frm.refl [] We).alloc _)) (fun u hu => arE_one l u (List.mem_of_mem_take hu)) k (Nat.zero_add _) (by omega) (by simp) ?_; intro a6 c6 w6 own6 hf6 hb6; have F6 : Frm [] We w6 := frm_own ((Frm.refl [] We).alloc _) (owns_made0 We 55 2) (Nat.le_refl _) hf6; have bx6 := BXE.out.frm F6 (by simp); have h6_0 := bx6.cell (i := 0) rfl; have h6_1 := bx6.cell (i := 1) rfl)
            | (at_builtin; refine app_row rfl (.tmp 39) (.tmp 41) 51 55 _ 2 16 rfl Tryz.underlying51 infoAr rfl (by decide) (by decide) We.heap.size k (.slice a6 k c6) _ rfl (own6.alloc _) _ 1 [.int .i64 x.1, .int .i64 x.2] [] rfl (rowV_cells (size := 2) (RowAt.made w6 55 [.int .i64 x.1, .int .i64 x.2] #[.int .i64 x.1, .int .i64 x.2] rfl) rfl (Nat.le_refl _) (by decide) (by simp)) (oneAr x) (k + 1) rfl (by omega) (by have := F6.size; simp; omega) ?_; intro a7 c7 w7 own7 hf7 hb7; have F7 : Frm [] We w7 := frm_own (F6.alloc _) (own6.alloc _) (Nat.le_refl _) hf7)
            | (at_builtin; refine app_row rfl (.tmp 43) (.tmp 46) 51 55 _ 2 16 rfl Tryz.underlying51 infoAr rfl (by decide) (by decide) We.heap.size (k + 1) (.slice a7 (k + 1) c7) _ rfl own7 _ (l.length - k) ((l.flatMap arE).drop (k * 2)) [] rfl ((RL.out.tail k).nil F7) (fun u hu => arE_one l u (List.mem_of_mem_drop hu)) (l.length + 1) (by omega) (by omega) F7.size ?_; intro a8 c8 w8 own8 hf8 hb8; have F8 : Frm [] We w8 := frm_own F7 own7 (Nat.le_refl _) hf8)
            | fail)
          go_ret
          have hln : (insG ltAr l x).length = l.length + 1 := by
            rw [HINS.out, List.length_append, List.length_cons, List.length_take, List.length_drop, Nat.min_eq_left (by omega)]
            omega
          refine ⟨⟨a8, c8, ?_, ?_, fun b hb => .inr (Nat.le_trans FE.out.size (own8.lt b (by first | exact hb | (rw [hln] at hb; exact hb))).1)⟩, FE.out.trans F8 (by simp)⟩
          · rw [hln]; rfl
          · have hb := ownsB_mono own8 (show B ≤ We.heap.size by have := FE.out.size; omega)
            rw [hln, HINS.out, List.flatMap_append, List.flatMap_cons, ← fm_take (enc := arE) (k := 2) (fun _ => rfl) l k, ← fm_drop (enc := arE) (k := 2) (fun _ => rfl) l k]
            rw [List.nil_append, List.append_assoc] at hb
            exact hb
        · obtain rfl : cap = k := hkc.symm
          have HD0 : Hid ((l.flatMap arE).drop (cap * 2) = []) := Lib.hid (by rw [fm_drop (enc := arE) (k := 2) (fun _ => rfl) l cap, List.drop_eq_nil_of_le (by omega)]; rfl)
          clear hkc
          go_wp2_with (first
            | (at_builtin; refine app_row rfl (.tmp 34) (.tmp 37) 51 55 _ 2 16 rfl Tryz.underlying51 infoAr rfl (by decide) (by decide) We.heap.size 0 (.slice (some ⟨We.heap.size, 0, none⟩) 0 0) [] rfl (owns_made0 We 55 2) _ cap ((l.flatMap arE).take (cap * 2)) [] rfl ((RL.out.init (by omega)).nil ((Frm.refl [] We).alloc _)) (fun u hu => arE_one l u (List.mem_of_mem_take hu)) cap (Nat.zero_add _) (by omega) (by simp) ?_; intro a6 c6 w6 own6 hf6 hb6; have F6 : Frm [] We w6 := frm_own ((Frm.refl [] We).alloc _) (owns_made0 We 55 2) (Nat.le_refl _) hf6; have bx6 := BXE.out.frm F6 (by simp); have h6_0 := bx6.cell (i := 0) rfl; have h6_1 := bx6.cell (i := 1) rfl)
            | (at_builtin; refine app_row rfl (.tmp 39) (.tmp 41) 51 55 _ 2 16 rfl Tryz.underlying51 infoAr rfl (by decide) (by decide) We.heap.size cap (.slice a6 cap c6) _ rfl (own6.alloc _) _ 1 [.int .i64 x.1, .int .i64 x.2] [] rfl (rowV_cells (size := 2) (RowAt.made w6 55 [.int .i64 x.1, .int .i64 x.2] #[.int .i64 x.1, .int .i64 x.2] rfl) rfl (Nat.le_refl _) (by decide) (by simp)) (oneAr x) (cap + 1) rfl (by omega) (by have := F6.size; simp; omega) ?_; intro a7 c7 w7 own7 hf7 hb7; have F7 : Frm [] We w7 := frm_own (F6.alloc _) (own6.alloc _) (Nat.le_refl _) hf7)
            | (at_builtin; refine app_row rfl (.tmp 43) (.tmp 46) 51 55 _ 2 16 rfl Tryz.underlying51 infoAr rfl (by decide) (by decide) We.heap.size (cap + 1) (.slice a7 (cap + 1) c7) _ rfl own7 _ (l.length - cap) ((l.flatMap arE).drop (cap * 2)) [] rfl ((by rw [HD0.out]; exact RowV.zero _ _ _ _ _ _ (by omega) (Nat.zero_le _))) (fun u hu => arE_one l u (List.mem_of_mem_drop hu)) (l.length + 1) (by omega) (by omega) F7.size ?_; intro a8 c8 w8 own8 hf8 hb8; have F8 : Frm [] We w8 := frm_own F7 own7 (Nat.le_refl _) hf8)
            | fail)
          go_ret
          have hln : (insG ltAr l x).length = l.length + 1 := by
            rw [HINS.out, List.length_append, List.length_cons, List.length_take, List.length_drop, Nat.min_eq_left (by omega)]
            omega
          refine ⟨⟨a8, c8, ?_, ?_, fun b hb => .inr (Nat.le_trans FE.out.size (own8.lt b (by first | exact hb | (rw [hln] at hb; exact hb))).1)⟩, FE.out.trans F8 (by simp)⟩
          · rw [hln]; rfl
          · have hb := ownsB_mono own8 (show B ≤ We.heap.size by have := FE.out.size; omega)
            rw [hln, HINS.out, List.flatMap_append, List.flatMap_cons, ← fm_take (enc := arE) (k := 2) (fun _ => rfl) l cap, ← fm_drop (enc := arE) (k := 2) (fun _ => rfl) l cap]
            rw [List.nil_append, List.append_assoc] at hb
            exact hb

end Go.Proofs.YtdknbgejhhoaiaaGreat.Ind
