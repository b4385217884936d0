/- The reference's Rising, AddSet, Minimal. -/
import Derived.Test.YtikpcipkkhmcfaaGreatQ37
import Derived.Test.YtikpcipkkhmcfaaGreatQ08
namespace Go.Proofs.YtikpcipkkhmcfaaGreat.Beh
open Go.Shelf Go.RowKit Go.Lib Go.Proofs.YtikpcipkkhmcfaaGreat Go.Proofs.YtikpcipkkhmcfaaGreat.Ind

set_option maxRecDepth 100000 in
theorem rising_any (B : Nat) (a : Option Addr) (cap : Nat) (xs : List Int) (w : World) (h : Rd B w a xs.length cap 1 (ints xs)) :
    Calls Tryz.prog 80 #[.slice a xs.length cap] w fun e w' => e = .returned (.bool (Ind.ascB xs)) ∧ Frm [] w w' := by
  have l1 := h.lt
  obtain ⟨R, hR⟩ : ∃ R, Ind.ascB xs = R := ⟨_, rfl⟩
  rw [hR]
  have H := Lib.hid h
  clear h
  go_enter Tryz.func80, Tryz.ntmps80
  go_wp2_with fail
  go_loopg [3] xs.length (fun q i wr => ∃ (k : Nat), q = xs.length - k ∧ i = .int .i64 ((k + 1 : Nat) : Int) ∧ k ≤ xs.length ∧ Ind.ascB (xs.drop k) = R ∧ Frm [] w wr)
  case atStart => exact ⟨0, rfl, rfl, Nat.zero_le _, hR, Frm.refl _ _⟩
  case round =>
    clear hR
    obtain ⟨k, rfl, rfl, hk, hd, hF⟩ := hrel
    have HF := Lib.hid hF
    have i4 : (0 : Int) ≤ ((k + 1 : Nat) : Int) := by omega
    have i3 : IntKind.i64.wrap (((k + 1 : Nat) : Int) - 1) = (k : Int) := by rw [IntWalk.i64_in _ (by omega)]; omega
    have i2 : (0 : Int) ≤ (k : Int) := by omega
    clear hF
    by_cases hlt : k + 1 < xs.length
    · have i5 : ((k + 1 : Nat) : Int) < (xs.length : Int) := by omega
      have i6 : (k : Int) < (xs.length : Int) := by omega
      obtain ⟨x, hx⟩ : ∃ x, xs[k]? = some x := ⟨_, List.getElem?_eq_getElem (by omega)⟩
      obtain ⟨y, hy⟩ : ∃ y, xs[k + 1]? = some y := ⟨_, List.getElem?_eq_getElem hlt⟩
      rw [drop_cons hx, drop_cons hy, Ind.ascB] at hd
      obtain ⟨g, o, rfl, _, c1⟩ := H.out.at hx
      obtain ⟨g', o', e9, _, c2⟩ := H.out.at hy
      cases e9
      have d1 := HF.out.cell c1 (by simp)
      have d2 := HF.out.cell c2 (by simp)
      clear c1 c2
      by_cases hxy : x < y
      · have hxy2 : ¬ y ≤ x := by omega
        rw [decide_eq_true hxy, Bool.true_and, ← drop_cons hy] at hd
        have HD := Lib.hid hd
        clear hd hx hy
        generalize hk1 : k + 1 = k1 at *
        go_wp2_with fail
        go_quiet (fail)
        go_wp2_with fail
        go_roundg (xs.length - k1)
        case rel => exact ⟨k1, rfl, by first | rfl | go_num, by omega, HD.out, HF.out.drewN _⟩
        case measure => omega
      · have hxy2 : y ≤ x := by omega
        rw [decide_eq_false hxy, Bool.false_and] at hd
        have HD := Lib.hid hd
        clear hd hx hy hxy
        generalize hk1 : k + 1 = k1 at *
        go_wp2_with fail
        go_quiet (fail)
        go_wp2_with fail
        go_ret
        exact ⟨by rw [← HD.out]; rfl, HF.out.drewN _⟩
    · have i5 : ¬ ((k + 1 : Nat) : Int) < (xs.length : Int) := by omega
      have HR : Hid (R = true) := Lib.hid (by
        rw [← hd]
        have hl : (xs.drop k).length ≤ 1 := by rw [List.length_drop]; omega
        match xs.drop k, hl with
        | [], _ => rfl
        | [_], _ => rfl)
      clear hd
      go_wp2_with fail
      go_ret
      exact ⟨by rw [HR.out]; rfl, HF.out⟩
theorem insG_at {l : List (List Int)} {x : List Int} {i : Nat} (hi : i ≤ l.length) (h : ∀ y ∈ l.take i, ltL y x = true) : insG ltL l x = l.take i ++ insG ltL (l.drop i) x := by
  induction i generalizing l with
  | zero => simp
  | succ i ih =>
    cases l with
    | nil => simp
    | cons a r =>
      rw [List.take_succ_cons, List.drop_succ_cons, insG, if_pos (h a (by simp)), List.cons_append]
      rw [ih (by simpa using hi) (fun y hy => h y (by simp [hy]))]
theorem insG_stop {l : List (List Int)} {x y : List Int} (h : l.head? = some y) (h1 : ltL y x = false) : insG ltL l x = if y = x then l else x :: l := by
  cases l with
  | nil => cases h
  | cons a r =>
    simp only [List.head?_cons, Option.some.injEq] at h
    subst h
    rw [insG, h1]
    simp
def AddEnd (w : World) (B : Nat) (F : List Nat) (rows : List (List Int)) (x : List Int) (e : Ending) (w' : World) : Prop :=
  (∃ (a : Option Addr) (c : Nat) (ps : List PV), e = .returned (.slice a ps.length c) ∧ w'.ownsRow B 22 1 (.slice a ps.length c) ps.length (ps.map (·.1)) ∧ PsAt w' F ps ∧ ps.map (·.2) = insG ltL rows x) ∧ Frm [] w w'
theorem take_mapF {α β : Type} (f : α → β) (l : List α) (k : Nat) : (l.take k).map f = (l.map f).take k := List.map_take
set_option linter.unusedSimpArgs false in
set_option maxRecDepth 100000 in
set_option maxHeartbeats 8000000 in
theorem addSet_any (B : Nat) (F : List Nat) (w : World) (a : Option Addr) (c : Nat) (ps : List PV) (u : Value) (x : List Int) (h : w.ownsRow B 22 1 (.slice a ps.length c) ps.length (ps.map (·.1))) (hp : PsAt w F ps) (hx : RowV w F u x.length 1 (ints x)) (hn : ps.length ≤ 1000000000) (hB : B ≤ w.heap.size) :
    Calls Tryz.prog 142 #[.slice a ps.length c, u] w (AddEnd w B F (ps.map (·.2)) x) := by
  obtain ⟨ua, uc, rfl⟩ := hx.shape
  have H := Lib.hid h
  have HP := Lib.hid hp
  have HX := Lib.hid hx
  have l1 : (ps.length : Int) ≤ 1000000000 := by omega
  have hle : (ps.length : Int) ≤ (c : Int) := by
    obtain ⟨_, a', c', e', h2, _⟩ := rowV_of_owns (F := []) h (by simp)
    cases e'
    omega
  have HRV := Lib.hid (rowV_of_owns (F := []) h (by simp))
  obtain ⟨R, hR⟩ : ∃ R, R = ps.map (·.2) := ⟨_, rfl⟩
  rw [← hR]
  have HR := Lib.hid hR
  have HRL : Hid (R.length = ps.length) := Lib.hid (by rw [hR, List.length_map])
  clear h hp hx hR
  go_enter Tryz.func142, Tryz.ntmps142
  go_wp2_with fail
  go_loopg [5] ps.length (fun q t wr => ∃ (k : Nat), q = ps.length - k ∧ k ≤ ps.length ∧ t = .int .i64 k ∧ (∀ y ∈ R.take k, ltL y x = true) ∧ Frm [] w wr)
  case atStart => exact ⟨0, rfl, Nat.zero_le _, rfl, by simp, Frm.refl _ _⟩
  case round =>
    obtain ⟨k, hq, hk, rfl, hd, hF⟩ := hrel
    have HQ := Lib.hid hq
    have HF := Lib.hid hF
    have HD := Lib.hid hd
    have i4 : (0 : Int) ≤ (k : Int) := by omega
    clear hq hF hd
    by_cases hlt : k < ps.length
    · have i5 : (k : Int) < (ps.length : Int) := by omega
      obtain ⟨⟨y1, y⟩, hy⟩ : ∃ p, ps[k]? = some p := ⟨_, List.getElem?_eq_getElem hlt⟩
      have hyR : R[k]? = some y := by rw [HR.out, List.getElem?_map, hy]; rfl
      have hry : RowV w F y1 y.length 1 (ints y) := HP.out _ (List.mem_of_getElem? hy)
      obtain ⟨ya, yc, rfl⟩ := hry.shape
      obtain ⟨g, cp, e0, _, _, _, hrow⟩ := ownsB_some H.out (by omega)
      obtain ⟨rfl, rfl⟩ : a = some ⟨g, 0, none⟩ ∧ c = cp := by simpa using e0
      have c0 := HF.out.cell (hrow.cell (i := k) (by rw [List.getElem?_map, hy]; rfl)) (by simp)
      have hL := lessInts_any wr.heap.size wr.heap.size ya ua yc uc y x wr (hry.nil HF.out).rd (HX.out.nil HF.out).rd
      cases hb : ltL y x with
      | true =>
        rw [hb] at hL
        have HL := Lib.hid hL
        have HT : Hid (∀ z ∈ R.take (k + 1), ltL z x = true) := Lib.hid (fun z hz => by
          rw [take_snoc hyR] at hz
          rcases List.mem_append.1 hz with hz | hz
          · exact HD.out z hz
          · rw [List.mem_singleton.1 hz]; exact hb)
        clear hL hb hy hyR hry e0 hrow
        go_wp2_with (go_at_call 50; refine HL.out.mono ?_; rintro e5 w5 ⟨rfl, hf5⟩)
        go_roundg (ps.length - (k + 1))
        case rel => exact ⟨k + 1, rfl, by omega, by go_num, HT.out, HF.out.trans hf5 (by simp)⟩
        case measure => have := HQ.out; omega
      | false =>
        rw [hb] at hL
        have HL := Lib.hid hL
        have hins := insG_at (l := R) (i := k) (by rw [HRL.out]; omega) HD.out
        have hst := insG_stop (l := R.drop k) (x := x) (y := y) (by rw [drop_cons hyR]; rfl) hb
        rw [hst] at hins
        have HE : Hid (∀ W, Frm [] w W → Calls Tryz.prog 34 #[.slice ya y.length yc, .slice ua x.length uc] W fun e w' => e = .returned (.bool (decide (y = x))) ∧ Frm [] W w') := Lib.hid fun W hf => Go.Proofs.YtikpcipkkhmcfaaGreat.ints_same W.heap.size ya ua yc uc y x W (hry.nil hf).rd (HX.out.nil hf).rd
        have C0 := Lib.hid (hrow.cell (i := k) (by rw [List.getElem?_map, hy]; rfl) : w.cell? ⟨g, k, none⟩ = some (.slice ya y.length yc))
        by_cases hyx : y = x
        · rw [if_pos hyx, List.take_append_drop] at hins
          have he := HE.out
          rw [decide_eq_true hyx] at he
          have HE2 := Lib.hid he
          have HINS := Lib.hid hins
          clear hL hb hy hyR hry e0 hrow hins hst he HE hyx
          go_wp2_with (first
            | (go_at_call 50; refine HL.out.mono ?_; rintro e5 w5 ⟨rfl, hf5⟩; have FW := Lib.hid (HF.out.trans hf5 (by simp)); have d0 := FW.out.cell C0.out (by simp); clear hf5)
            | (go_at_call 34; refine (HE2.out _ FW.out).mono ?_; rintro e6 w6 ⟨rfl, hf6⟩; have FW6 := Lib.hid (FW.out.trans hf6 (by simp)); clear hf6)
            | fail)
          go_ret
          exact ⟨⟨some ⟨g, 0, none⟩, c, ps, rfl, ownsB_frm H.out FW6.out (by simp), HP.out.nil FW6.out, by rw [HINS.out, HR.out]⟩, FW6.out⟩
        · rw [if_neg hyx] at hins
          have he := HE.out
          rw [decide_eq_false hyx] at he
          have HE2 := Lib.hid he
          have HINS := Lib.hid hins
          have i6 : (k : Int) ≤ (c : Int) := by omega
          have i7 : (k : Int) ≤ (ps.length : Int) := by omega
          have i8 : IntKind.i64.wrap ((ps.length : Int) - (k : Int)) = ((ps.length - k : Nat) : Int) := by rw [IntWalk.i64_in _ (by omega)]; omega
          have HIN : Hid (∀ W, Frm [] w W → RowV W [] (.slice (some ⟨g, 0, none⟩) k c) k 1 ((ps.map (·.1)).take k)) := Lib.hid fun W hf => by
            have := (HRV.out.nil hf).init (k := k) (by omega)
            rw [Nat.mul_one] at this
            exact this
          have HTL : Hid (∀ W, Frm [] w W → RowV W [] (.slice (some ⟨g, k, none⟩) (ps.length - k) (c - k)) (ps.length - k) 1 ((ps.map (·.1)).drop k)) := Lib.hid fun W hf => by
            have := (HRV.out.nil hf).tail k
            rw [Nat.mul_one] at this
            exact this
          clear hL hb hy hyR hry e0 hrow hins hst he HE hyx
          go_wp2_with (first
            | (go_at_call 50; refine HL.out.mono ?_; rintro e5 w5 ⟨rfl, hf5⟩; have FW := Lib.hid (HF.out.trans hf5 (by simp)); have d0 := FW.out.cell C0.out (by simp); clear hf5)
            | (go_at_call 34; refine (HE2.out _ FW.out).mono ?_; rintro e6 w6 ⟨rfl, hf6⟩; have FW6 := Lib.hid (FW.out.trans hf6 (by simp)); clear hf6)
            | (at_builtin; refine app_rowB rfl (.tmp 34) (.tmp 37) 67 22 _ 1 24 rfl Tryz.underlying67 infoIs rfl (by decide) w6.heap.size 0 (.slice (some ⟨w6.heap.size, 0, none⟩) 0 0) [] rfl (owns_made0 w6 22 1) _ k ((ps.map (fun p : PV => p.1)).take k) [] rfl (HIN.out _ (FW6.out.alloc _)) (fun v hv => HP.out.one v (List.mem_of_mem_take hv)) k (Nat.zero_add _) (by omega) (by omega) (by simp) ?_; intro a1 c1 w1 own1 hf1 hb1; have O1 := Lib.hid own1; have Z1 : Hid (w6.heap.size ≤ w1.heap.size) := Lib.hid (Nat.le_trans (by simp) hf1.size); have F1 := Lib.hid (frm_own (FW6.out.alloc _) (owns_made0 w6 22 1) FW6.out.size hf1); clear own1 hf1 hb1)
            | (at_builtin; refine app_rowB rfl (.tmp 39) (.tmp 41) 67 22 _ 1 24 rfl Tryz.underlying67 infoIs rfl (by decide) w6.heap.size k (.slice a1 k c1) _ rfl (ownsB_frm O1.out ((Frm.refl [] w1).alloc (.cells #[.slice ua x.length uc] 22)) (by simp)) _ 1 [.slice ua x.length uc] [] rfl (rowV_cells (size := 1) (RowAt.made w1 22 [.slice ua x.length uc] #[.slice ua x.length uc] rfl) rfl (Nat.le_refl _) (by decide) (by simp)) (by simp [Value.oneCell']) (k + 1) rfl (by omega) (by omega) (Nat.le_trans Z1.out (by simp)) ?_; intro a2 c2 w2 own2 hf2 hb2; have O2 := Lib.hid own2; have Z2 : Hid (w6.heap.size ≤ w2.heap.size) := Lib.hid (Nat.le_trans Z1.out (Nat.le_trans (by simp) hf2.size)); have F2 := Lib.hid ((F1.out.alloc (.cells #[.slice ua x.length uc] 22)).trans hf2 (fun y hy => .inr (Nat.le_trans FW6.out.size (O1.out.lt y (by simpa using hy)).1))); clear own2 hf2 hb2)
            | (at_builtin; refine app_rowB rfl (.tmp 43) (.tmp 46) 67 22 _ 1 24 rfl Tryz.underlying67 infoIs rfl (by decide) w6.heap.size (k + 1) (.slice a2 (k + 1) c2) _ rfl O2.out _ (ps.length - k) ((ps.map (fun p : PV => p.1)).drop k) [] rfl (HTL.out _ F2.out) (fun v hv => HP.out.one v (List.mem_of_mem_drop hv)) (ps.length + 1) (by omega) (by omega) (by omega) Z2.out ?_; intro a3 c3 w3 own3 hf3 hb3; have O3 := Lib.hid own3; have F3 := Lib.hid (F2.out.trans hf3 (fun y hy => .inr (Nat.le_trans FW6.out.size (O2.out.lt y (by simpa using hy)).1))); clear own3 hf3 hb3)
            | fail)
          go_ret
          have hll : (ps.take k ++ [((.slice ua x.length uc, x) : PV)] ++ ps.drop k).length = ps.length + 1 := by simp; omega
          refine ⟨⟨a3, c3, ps.take k ++ [(.slice ua x.length uc, x)] ++ ps.drop k, by rw [hll]; rfl, ?_, ?_, ?_⟩, F3.out⟩
          · rw [hll, List.map_append, List.map_append, take_mapF, List.map_drop]
            have h9 := ownsB_mono O3.out (Nat.le_trans hB FW6.out.size)
            rw [List.nil_append] at h9
            exact h9
          · intro q hq
            rcases List.mem_append.1 hq with hq | hq
            · rcases List.mem_append.1 hq with hq | hq
              · exact (HP.out q (List.mem_of_mem_take hq)).nil F3.out
              · rw [List.mem_singleton.1 hq]; exact HX.out.nil F3.out
            · exact (HP.out q (List.mem_of_mem_drop hq)).nil F3.out
          · rw [List.map_append, List.map_append, take_mapF, List.map_drop, ← HR.out, HINS.out]
            simp
    · have i5 : ¬ (k : Int) < (ps.length : Int) := by omega
      have hkl : k = ps.length := by omega
      have HINS : Hid (insG ltL R x = R.take k ++ x :: R.drop k) := Lib.hid (by
        rw [insG_at (l := R) (i := k) (by rw [HRL.out]; omega) HD.out, List.drop_eq_nil_of_le (by rw [HRL.out]; omega)]; rfl)
      cases a with
      | none =>
        obtain ⟨hps, rfl⟩ : ps = [] ∧ c = 0 := by
          rcases H.out.2 with ⟨h1, h2⟩ | ⟨_, _, _, h1, _⟩
          · exact ⟨List.eq_nil_of_length_eq_zero h2, by simp at h1; exact h1.2⟩
          · cases h1
        subst hps
        simp only [List.length_nil] at hk
        obtain rfl : k = 0 := by omega
        have hR0 : insG ltL R x = [x] := by rw [HR.out]; rfl
        have HR0 := Lib.hid hR0
        have i9 : ¬ (0 : Int) < 0 := by omega
        clear i4 i5 l1 hle hkl hR0 HD HINS HRL
        go_wp2_with (first
          | (at_builtin; refine app_rowB rfl (.tmp 34) (.tmp 37) 67 22 _ 1 24 rfl Tryz.underlying67 infoIs rfl (by decide) wr.heap.size 0 (.slice (some ⟨wr.heap.size, 0, none⟩) 0 0) [] rfl (owns_made0 wr 22 1) _ 0 [] [] rfl (RowV.nil0 _ _ _) (by simp) 0 rfl (by omega) (by omega) (by simp) ?_; intro a1 c1 w1 own1 hf1 hb1; have O1 := Lib.hid own1; have Z1 : Hid (wr.heap.size ≤ w1.heap.size) := Lib.hid (Nat.le_trans (by simp) hf1.size); have F1 := Lib.hid (frm_own (HF.out.alloc _) (owns_made0 wr 22 1) HF.out.size hf1); clear own1 hf1 hb1)
          | (at_builtin; refine app_rowB rfl (.tmp 39) (.tmp 41) 67 22 _ 1 24 rfl Tryz.underlying67 infoIs rfl (by decide) wr.heap.size 0 (.slice a1 0 c1) _ rfl (ownsB_frm O1.out ((Frm.refl [] w1).alloc (.cells #[.slice ua x.length uc] 22)) (by simp)) _ 1 [.slice ua x.length uc] [] rfl (rowV_cells (size := 1) (RowAt.made w1 22 [.slice ua x.length uc] #[.slice ua x.length uc] rfl) rfl (Nat.le_refl _) (by decide) (by simp)) (by simp [Value.oneCell']) 1 rfl (by omega) (by omega) (Nat.le_trans Z1.out (by simp)) ?_; intro a2 c2 w2 own2 hf2 hb2; have O2 := Lib.hid own2; have Z2 : Hid (wr.heap.size ≤ w2.heap.size) := Lib.hid (Nat.le_trans Z1.out (Nat.le_trans (by simp) hf2.size)); have F2 := Lib.hid ((F1.out.alloc (.cells #[.slice ua x.length uc] 22)).trans hf2 (fun y hy => .inr (Nat.le_trans HF.out.size (O1.out.lt y (by simpa using hy)).1))); clear own2 hf2 hb2)
          | (at_builtin; refine app_rowB rfl (.tmp 43) (.tmp 46) 67 22 _ 1 24 rfl Tryz.underlying67 infoIs rfl (by decide) wr.heap.size 1 (.slice a2 1 c2) _ rfl O2.out _ 0 [] [] rfl (RowV.nil0 _ _ _) (by simp) 1 rfl (by omega) (by omega) Z2.out ?_; intro a3 c3 w3 own3 hf3 hb3; have O3 := Lib.hid own3; have F3 := Lib.hid (F2.out.trans hf3 (fun y hy => .inr (Nat.le_trans HF.out.size (O2.out.lt y (by simpa using hy)).1))); clear own3 hf3 hb3)
          | fail)
        go_ret
        refine ⟨⟨a3, c3, [(.slice ua x.length uc, x)], rfl, ownsB_mono O3.out (Nat.le_trans hB HF.out.size), fun q hq => ?_, ?_⟩, F3.out⟩
        · rw [List.mem_singleton.1 hq]; exact HX.out.nil F3.out
        · rw [HR0.out]; rfl
      | some ad =>
        obtain ⟨g, rfl⟩ : ∃ g, ad = ⟨g, 0, none⟩ := by
          rcases H.out.2 with ⟨h1, _⟩ | ⟨g, _, _, h1, _⟩
          · cases h1
          · cases h1; exact ⟨g, rfl⟩
        have i6 : (k : Int) ≤ (c : Int) := by omega
        have i7 : (k : Int) ≤ (ps.length : Int) := by omega
        have i8 : IntKind.i64.wrap ((ps.length : Int) - (k : Int)) = ((ps.length - k : Nat) : Int) := by rw [IntWalk.i64_in _ (by omega)]; omega
        have HIN : Hid (∀ W, Frm [] w W → RowV W [] (.slice (some ⟨g, 0, none⟩) k c) k 1 ((ps.map (·.1)).take k)) := Lib.hid fun W hf => by
          have := (HRV.out.nil hf).init (k := k) (by omega)
          rw [Nat.mul_one] at this
          exact this
        have HTL : Hid (∀ W, Frm [] w W → RowV W [] (.slice (if c = k then some ⟨g, 0, none⟩ else some ⟨g, k, none⟩) (ps.length - k) (c - k)) (ps.length - k) 1 ((ps.map (fun p : PV => p.1)).drop k)) := Lib.hid fun W hf => by
          have h9 := (HRV.out.nil hf).tail k
          rw [Nat.mul_one] at h9
          split
          · have hd : (ps.map (fun p : PV => p.1)).drop k = [] := List.drop_eq_nil_of_le (by rw [List.length_map]; omega)
            rw [hd]
            exact RowV.zero W [] ⟨g, 0, none⟩ _ _ 1 (by omega) (by unfold maxLen; omega)
          · exact h9
        clear HD hkl
        go_wp2_with (first
          | (at_builtin; refine app_rowB rfl (.tmp 34) (.tmp 37) 67 22 _ 1 24 rfl Tryz.underlying67 infoIs rfl (by decide) wr.heap.size 0 (.slice (some ⟨wr.heap.size, 0, none⟩) 0 0) [] rfl (owns_made0 wr 22 1) _ k ((ps.map (fun p : PV => p.1)).take k) [] rfl (HIN.out _ (HF.out.alloc _)) (fun v hv => HP.out.one v (List.mem_of_mem_take hv)) k (Nat.zero_add _) (by omega) (by omega) (by simp) ?_; intro a1 c1 w1 own1 hf1 hb1; have O1 := Lib.hid own1; have Z1 : Hid (wr.heap.size ≤ w1.heap.size) := Lib.hid (Nat.le_trans (by simp) hf1.size); have F1 := Lib.hid (frm_own (HF.out.alloc _) (owns_made0 wr 22 1) HF.out.size hf1); clear own1 hf1 hb1)
          | (at_builtin; refine app_rowB rfl (.tmp 39) (.tmp 41) 67 22 _ 1 24 rfl Tryz.underlying67 infoIs rfl (by decide) wr.heap.size k (.slice a1 k c1) _ rfl (ownsB_frm O1.out ((Frm.refl [] w1).alloc (.cells #[.slice ua x.length uc] 22)) (by simp)) _ 1 [.slice ua x.length uc] [] rfl (rowV_cells (size := 1) (RowAt.made w1 22 [.slice ua x.length uc] #[.slice ua x.length uc] rfl) rfl (Nat.le_refl _) (by decide) (by simp)) (by simp [Value.oneCell']) (k + 1) rfl (by omega) (by omega) (Nat.le_trans Z1.out (by simp)) ?_; intro a2 c2 w2 own2 hf2 hb2; have O2 := Lib.hid own2; have Z2 : Hid (wr.heap.size ≤ w2.heap.size) := Lib.hid (Nat.le_trans Z1.out (Nat.le_trans (by simp) hf2.size)); have F2 := Lib.hid ((F1.out.alloc (.cells #[.slice ua x.length uc] 22)).trans hf2 (fun y hy => .inr (Nat.le_trans HF.out.size (O1.out.lt y (by simpa using hy)).1))); clear own2 hf2 hb2)
          | (at_builtin; refine app_rowB rfl (.tmp 43) (.tmp 46) 67 22 _ 1 24 rfl Tryz.underlying67 infoIs rfl (by decide) wr.heap.size (k + 1) (.slice a2 (k + 1) c2) _ rfl O2.out _ (ps.length - k) ((ps.map (fun p : PV => p.1)).drop k) [] rfl (HTL.out _ F2.out) (fun v hv => HP.out.one v (List.mem_of_mem_drop hv)) (ps.length + 1) (by omega) (by omega) (by omega) Z2.out ?_; intro a3 c3 w3 own3 hf3 hb3; have O3 := Lib.hid own3; have F3 := Lib.hid (F2.out.trans hf3 (fun y hy => .inr (Nat.le_trans HF.out.size (O2.out.lt y (by simpa using hy)).1))); clear own3 hf3 hb3)
          | fail)
        all_goals
          go_ret
          have hll : (ps.take k ++ [((.slice ua x.length uc, x) : PV)] ++ ps.drop k).length = ps.length + 1 := by simp; omega
          refine ⟨⟨a3, c3, ps.take k ++ [(.slice ua x.length uc, x)] ++ ps.drop k, by rw [hll]; rfl, ?_, ?_, ?_⟩, F3.out⟩
          · rw [hll, List.map_append, List.map_append, take_mapF, List.map_drop]
            have h9 := ownsB_mono O3.out (Nat.le_trans hB HF.out.size)
            rw [List.nil_append] at h9
            exact h9
          · intro q hq
            rcases List.mem_append.1 hq with hq | hq
            · rcases List.mem_append.1 hq with hq | hq
              · exact (HP.out q (List.mem_of_mem_take hq)).nil F3.out
              · rw [List.mem_singleton.1 hq]; exact HX.out.nil F3.out
            · exact (HP.out q (List.mem_of_mem_drop hq)).nil F3.out
          · rw [List.map_append, List.map_append, take_mapF, List.map_drop, ← HR.out, HINS.out]
            simp
end Go.Proofs.YtikpcipkkhmcfaaGreat.Beh
