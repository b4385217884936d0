/- Texts G3, G4, G5. -/
import Derived.Test.YtdknbgejhhoaiaaGreatQ00
/- Contracts of rows.loose and rows.Valid. -/
namespace Go.Proofs.YtdknbgejhhoaiaaGreat
open Go.RowKit

theorem arcOk_true {n : Nat} {e t : Int} (h : arcOk n (e, t) = true) : 0 ≤ e ∧ e ≤ 1025 ∧ 0 ≤ t ∧ t < n := by
  simp only [arcOk, Bool.not_eq_true', Bool.or_eq_false_iff, decide_eq_false_iff_not] at h
  omega
theorem arcOk_false {n : Nat} {e t : Int} (h : arcOk n (e, t) = false) : e < 0 ∨ (0 ≤ e ∧ 1025 < e) ∨ (0 ≤ e ∧ e ≤ 1025 ∧ t < 0) ∨ (0 ≤ e ∧ e ≤ 1025 ∧ 0 ≤ t ∧ (n : Int) ≤ t) := by
  simp only [arcOk, Bool.not_eq_false', Bool.or_eq_true, decide_eq_true_eq] at h
  omega

/-- A cell of a box that the call has made, further on. -/
theorem box1 (w : World) (v : Value) (t : TypeId) : RowAt (w.alloc (.cells #[v] t)) w.heap.size t [v] := RowAt.made w t [v] #[v] rfl

set_option maxRecDepth 100000 in
set_option maxHeartbeats 2000000 in
theorem loose_any (B : Nat) (a : Option Addr) (cap : Nat) (l : Lts) (w : World) (h : LAt B w a cap l) :
    Calls Tryz.prog 49 #[.agg #[.slice a l.length cap]] w fun e w' => e = .returned (.bool (looseB l)) ∧ Frm [] w w' := by
  have f0 : Frm [] w (w.alloc (.cells #[.slice a l.length cap] 25)) := (Frm.refl [] w).alloc _
  have hbox := box1 w (.slice a l.length cap) 25
  have hl := h.lt
  have h' := h.nil f0 rfl
  by_cases h1 : (l.length : Int) < 1
  · have HR : Hid (looseB l = false) := by
      show looseB l = false
      rw [looseB, decide_eq_false (by omega)]; rfl
    go_enter Tryz.func49, Tryz.ntmps49
    go_wp2
    go_ret
    exact ⟨by rw [HR.out]; rfl, f0⟩
  · have h1' : 1 ≤ (l.length : Int) := by omega
    by_cases h2 : 16384 < (l.length : Int)
    · have HR : Hid (looseB l = false) := by
        show looseB l = false
        rw [looseB, decide_eq_false (show ¬ l.length ≤ 16384 by omega)]; simp
      go_enter Tryz.func49, Tryz.ntmps49
      go_wp2
      go_ret
      exact ⟨by rw [HR.out]; rfl, f0⟩
    · have h2' : (l.length : Int) ≤ 16384 := by omega
      have HR : Hid (looseB l = looseGo l.length 0 l) := by
        show looseB l = looseGo l.length 0 l
        rw [looseB, decide_eq_true (show 1 ≤ l.length by omega), decide_eq_true (show l.length ≤ 16384 by omega)]; simp
      clear h1 h2
      obtain ⟨R, hR⟩ : ∃ R, looseGo l.length 0 l = R := ⟨_, rfl⟩
      have HRR : Hid (looseB l = R) := by show looseB l = R; rw [HR.out, hR]
      clear HR
      have HB := Lib.hid hbox
      go_enter Tryz.func49, Tryz.ntmps49
      go_wp2_with fail
      clear hbox
      go_loopg [21, 4] l.length (fun g i c wr => ∃ (k used : Nat), g = l.length - k ∧ k ≤ l.length ∧ i = .int .i64 k ∧ used ≤ 262144 ∧ c = .int .i64 (262144 - (used : Int)) ∧
        Frm [] (w.alloc (.cells #[.slice a l.length cap] 25)) wr ∧ looseGo l.length used (l.drop k) = R)
      case atStart => exact ⟨0, 0, rfl, Nat.zero_le _, rfl, by omega, rfl, Frm.refl _ _, hR⟩
      case round =>
        clear hR
        obtain ⟨k, used, rfl, hk, rfl, hus, rfl, hF, hgo⟩ := hrel
        have HF := Lib.hid hF
        have hbc := (HB.out.frm hF (by simp)).cell (i := 0) rfl
        clear hF
        by_cases hlt : k < l.length
        · obtain ⟨row, hrow⟩ : ∃ row, l[k]? = some row := ⟨_, List.getElem?_eq_getElem hlt⟩
          obtain ⟨b, o, ra, rc, rfl, hb, hc0, hrr⟩ := h'.cell k row hrow
          have hc := HF.out.cell hc0 (by simp)
          clear hc0
          rw [drop_cons hrow, looseGo] at hgo
          have hrl := hrr.lt
          by_cases hfit : used + row.length ≤ 262144
          · rw [decide_eq_true hfit, Bool.true_and] at hgo
            have HGO := Lib.hid hgo
            have HRR2 := Lib.hid hrr
            have HROW := Lib.hid hrow
            clear hgo hrow hrr h' h
            go_wp2_with fail
            go_loopg [35] row.length (fun g i wr => ∃ (j : Nat), g = row.length - j ∧ j ≤ row.length ∧ i = .int .i64 j ∧
              Frm [] (w.alloc (.cells #[.slice (some ⟨b, o, none⟩) l.length cap] 25)) wr ∧ ((row.drop j).all (arcOk l.length) && looseGo l.length (used + row.length) (l.drop (k + 1))) = R)
            case atStart => exact ⟨0, rfl, Nat.zero_le _, rfl, HF.out, HGO.out⟩
            case round =>
              clear hc hbc
              obtain ⟨j, rfl, hj, rfl, hF2, hgo2⟩ := hrel
              have HF2 := Lib.hid hF2
              by_cases hjl : j < row.length
              · obtain ⟨⟨e, t⟩, harc⟩ : ∃ x, row[j]? = some x := ⟨_, List.getElem?_eq_getElem hjl⟩
                obtain ⟨b1, o1, rfl, hb1, d1, d2⟩ := (HRR2.out.frm hF2 (by simp)).2.2.2 j e t harc
                rw [drop_cons harc, List.all_cons] at hgo2
                clear hF2
                cases hok : arcOk l.length (e, t) with
                | true =>
                  obtain ⟨k1, k2, k3, k4⟩ := arcOk_true hok
                  rw [hok, Bool.true_and] at hgo2
                  have HGO2 := Lib.hid hgo2
                  clear hgo2 hok harc
                  go_wp2_with fail
                  go_roundg (row.length - (j + 1))
                  case rel => exact ⟨j + 1, rfl, by omega, by go_num, HF2.out.alloc _, HGO2.out⟩
                  case measure => omega
                | false =>
                  rw [hok, Bool.false_and, Bool.false_and] at hgo2
                  have HGO2 := Lib.hid hgo2
                  have hor := arcOk_false hok
                  clear hgo2 hok harc
                  rcases hor with k1 | ⟨k1, k2⟩ | ⟨k1, k2, k3⟩ | ⟨k1, k2, k3, k4⟩
                  all_goals
                    go_wp2_with fail
                    go_ret
                    exact ⟨by rw [HRR.out, ← HGO2.out]; rfl, (f0.trans HF2.out (by simp)).alloc _⟩
              · have : j = row.length := by omega
                subst this
                have HGO2 : Hid (looseGo l.length (used + row.length) (l.drop (k + 1)) = R) := by
                  show looseGo l.length (used + row.length) (l.drop (k + 1)) = R
                  rw [← hgo2, List.drop_length]; simp
                clear hgo2 hF2
                go_wp2_with fail
                go_roundg (l.length - (k + 1))
                case rel => exact ⟨k + 1, used + row.length, rfl, by omega, by go_num, hfit, by go_num, HF2.out, HGO2.out⟩
                case measure => omega
          · have HRF : Hid (R = false) := by
              show R = false
              rw [← hgo, decide_eq_false hfit, Bool.false_and]
            have hf1 : 262144 - (used : Int) < (row.length : Int) := by omega
            clear hgo hrow hrr h' h
            go_wp2_with fail
            go_ret
            exact ⟨by rw [HRR.out, HRF.out]; rfl, f0.trans HF.out (by simp)⟩
        · have : k = l.length := by omega
          subst this
          have HT : Hid (R = true) := by
            show R = true
            rw [← hgo, List.drop_length]; rfl
          clear hgo h' h
          go_wp2_with fail
          go_ret
          exact ⟨by rw [HRR.out, HT.out]; rfl, f0.trans HF.out (by simp)⟩

theorem ascB_two {row : List Arc} {j : Nat} {x y : Arc} (hx : row[j]? = some x) (hy : row[j + 1]? = some y) : ascB (row.drop j) = (ltA x y && ascB (row.drop (j + 1))) := by
  rw [drop_cons hx, drop_cons hy, ascB]

theorem ascB_short {row : List Arc} {j : Nat} (h : row.length ≤ j + 1) : ascB (row.drop j) = true := by
  have : (row.drop j).length ≤ 1 := by simp; omega
  match hd : row.drop j, this with
  | [], _ => rfl
  | [_], _ => rfl
  | _ :: _ :: _, h => simp at h

set_option maxRecDepth 100000 in
set_option maxHeartbeats 2000000 in
theorem valid_any (B : Nat) (a : Option Addr) (cap : Nat) (l : Lts) (w : World) (h : LAt B w a cap l) :
    Calls Tryz.prog 22 #[.agg #[.slice a l.length cap]] w fun e w' => e = .returned (.bool (validB l)) ∧ Frm [] w w' := by
  have f0 : Frm [] w (w.alloc (.cells #[.slice a l.length cap] 25)) := (Frm.refl [] w).alloc _
  have hbox := box1 w (.slice a l.length cap) 25
  have hl := h.lt
  have h' := h.nil f0 rfl
  have hlo := loose_any B a cap l _ h'
  have HB := Lib.hid hbox
  go_enter Tryz.func22, Tryz.ntmps22
  go_wp2_with fail
  refine hlo.mono ?_
  rintro e w1 ⟨rfl, hf1⟩
  clear hlo hbox
  have F1 := f0.trans hf1 (by simp)
  cases hL : looseB l with
  | false =>
    have HL : Hid (validB l = false) := by show validB l = false; rw [validB, hL, Bool.false_and]
    clear hL h h' f0
    go_wp2_with fail
    go_ret
    exact ⟨by rw [HL.out]; rfl, F1⟩
  | true =>
    obtain ⟨R, hR⟩ : ∃ R, l.all ascB = R := ⟨_, rfl⟩
    have HRR : Hid (validB l = R) := by show validB l = R; rw [validB, hL, Bool.true_and, hR]
    have h1 := h'.nil hf1 rfl
    have hbc := (HB.out.frm hf1 (by simp)).cell (i := 0) rfl
    clear hL h h' f0
    go_wp2_with fail
    clear hbc
    go_loopg [12] l.length (fun g i wr => ∃ (k : Nat), g = l.length - k ∧ k ≤ l.length ∧ i = .int .i64 k ∧ Frm [] w1 wr ∧ (l.drop k).all ascB = R)
    case atStart => exact ⟨0, rfl, Nat.zero_le _, rfl, Frm.refl _ _, hR⟩
    case round =>
      clear hR
      obtain ⟨k, rfl, hk, rfl, hF, hgo⟩ := hrel
      have HF := Lib.hid hF
      clear hF
      by_cases hlt : k < l.length
      · obtain ⟨row, hrow⟩ : ∃ row, l[k]? = some row := ⟨_, List.getElem?_eq_getElem hlt⟩
        obtain ⟨b, o, ra, rc, rfl, hb, hc0, hrr⟩ := h1.cell k row hrow
        have hc := HF.out.cell hc0 (by simp)
        rw [drop_cons hrow, List.all_cons] at hgo
        have hrl := hrr.lt
        have HGO := Lib.hid hgo
        have HRR2 := Lib.hid hrr
        clear hgo hrow hrr h1 hc0
        go_wp2_with fail
        go_loopg [5] row.length (fun g i wr => ∃ (j : Nat), g = row.length - j ∧ j ≤ row.length ∧ i = .int .i64 ((j : Int) + 1) ∧
          Frm [] w1 wr ∧ (ascB (row.drop j) && (l.drop (k + 1)).all ascB) = R)
        case atStart => exact ⟨0, rfl, Nat.zero_le _, rfl, HF.out, HGO.out⟩
        case round =>
          clear hc
          obtain ⟨j, rfl, hj, rfl, hF2, hgo2⟩ := hrel
          have HF2 := Lib.hid hF2
          by_cases hjl : j + 1 < row.length
          · obtain ⟨⟨e, t⟩, harc⟩ : ∃ x, row[j]? = some x := ⟨_, List.getElem?_eq_getElem (by omega)⟩
            obtain ⟨⟨f, u⟩, harc2⟩ : ∃ x, row[j + 1]? = some x := ⟨_, List.getElem?_eq_getElem hjl⟩
            have hrw := HRR2.out.frm hF2 (by simp)
            obtain ⟨b1, o1, rfl, hb1, d1, d2⟩ := hrw.2.2.2 j e t harc
            obtain ⟨b2, o2, hbo, hb2, d3, d4⟩ := hrw.2.2.2 (j + 1) f u harc2
            obtain ⟨rfl, rfl⟩ : b1 = b2 ∧ o1 = o2 := by simpa using hbo
            rw [ascB_two harc harc2] at hgo2
            have D1 := Lib.hid d1
            have D2 := Lib.hid d2
            have D3 := Lib.hid d3
            have D4 := Lib.hid d4
            have hcm := compare_any (e, t) (f, u)
            clear hF2 harc harc2 hrw hbo d1 d2 d3 d4
            have hw1 : IntKind.i64.wrap (j : Int) = (j : Int) := IntWalk.i64_in _ (by omega)
            have hi1 : (j : Int) + 1 < (row.length : Int) := by omega
            have hi2 : (j : Int) < (row.length : Int) := by omega
            have hi3 : (0 : Int) ≤ (j : Int) := by omega
            have hi4 : (0 : Int) ≤ (j : Int) + 1 := by omega
            have hn : ((j : Int) + 1).toNat = j + 1 := by omega
            cases hlt2 : ltA (e, t) (f, u) with
            | true =>
              have hneg : cmpA (e, t) (f, u) < 0 := (cmpA_lt _ _).2 hlt2
              rw [hlt2, Bool.true_and] at hgo2
              have HGO2 := Lib.hid hgo2
              clear hgo2 hlt2
              go_wp2_with fail
              go_region_held3 (fun w' => w'.cell? ⟨b1, o1 + j * 2, none⟩ = some (.int .i64 e) ∧ w'.cell? ⟨b1, o1 + j * 2 + 1, none⟩ = some (.int .i64 t) ∧ w'.cell? ⟨b1, o1 + (j + 1) * 2, none⟩ = some (.int .i64 f) ∧ w'.cell? ⟨b1, o1 + (j + 1) * 2 + 1, none⟩ = some (.int .i64 u)) (first | exact ⟨D1.out, D2.out, D3.out, D4.out⟩ | exact ⟨hf5.cell D1.out (by simp), hf5.cell D2.out (by simp), hf5.cell D3.out (by simp), hf5.cell D4.out (by simp)⟩) (first | (go_at_call 50; refine (hcm _).mono ?_; rintro e5 w5 ⟨rfl, hf5⟩))
              go_wp2_with fail
              go_roundg (row.length - (j + 1))
              case rel => exact ⟨j + 1, rfl, by omega, by go_num, HF2.out.drew.trans hf5 (by simp), HGO2.out⟩
              case measure => omega
            | false =>
              have hneg : 0 ≤ cmpA (e, t) (f, u) := by
                rcases (show cmpA (e, t) (f, u) < 0 ∨ 0 ≤ cmpA (e, t) (f, u) by omega) with h9 | h9
                · rw [(cmpA_lt _ _).1 h9] at hlt2; cases hlt2
                · exact h9
              rw [hlt2, Bool.false_and, Bool.false_and] at hgo2
              have HGO2 := Lib.hid hgo2
              clear hgo2 hlt2
              go_wp2_with fail
              go_region_held3 (fun w' => w'.cell? ⟨b1, o1 + j * 2, none⟩ = some (.int .i64 e) ∧ w'.cell? ⟨b1, o1 + j * 2 + 1, none⟩ = some (.int .i64 t) ∧ w'.cell? ⟨b1, o1 + (j + 1) * 2, none⟩ = some (.int .i64 f) ∧ w'.cell? ⟨b1, o1 + (j + 1) * 2 + 1, none⟩ = some (.int .i64 u)) (first | exact ⟨D1.out, D2.out, D3.out, D4.out⟩ | exact ⟨hf5.cell D1.out (by simp), hf5.cell D2.out (by simp), hf5.cell D3.out (by simp), hf5.cell D4.out (by simp)⟩) (first | (go_at_call 50; refine (hcm _).mono ?_; rintro e5 w5 ⟨rfl, hf5⟩))
              go_wp2_with fail
              go_ret
              exact ⟨by rw [HRR.out, ← HGO2.out]; rfl, F1.trans (HF2.out.drew.trans hf5 (by simp)) (by simp)⟩
          · rw [ascB_short (by omega), Bool.true_and] at hgo2
            have HGO2 := Lib.hid hgo2
            clear hgo2 hF2
            have hi1 : (row.length : Int) ≤ (j : Int) + 1 := by omega
            go_wp2_with fail
            go_roundg (l.length - (k + 1))
            case rel => exact ⟨k + 1, rfl, by omega, by go_num, HF2.out, HGO2.out⟩
            case measure => omega
      · have : k = l.length := by omega
        subst this
        have HT : Hid (R = true) := by
          show R = true
          rw [← hgo, List.drop_length]; rfl
        clear hgo h1
        go_wp2_with fail
        go_ret
        exact ⟨by rw [HRR.out, HT.out]; rfl, F1.trans HF.out (by simp)⟩

end Go.Proofs.YtdknbgejhhoaiaaGreat

/- Contracts of Less, Loose and Valid of the reference. -/
namespace Go.Proofs.YtdknbgejhhoaiaaGreat
open Go.RowKit

theorem less_any (a b : Arc) (w : World) :
    Calls Tryz.prog 44 #[.agg #[.int .i64 a.1, .int .i64 a.2], .agg #[.int .i64 b.1, .int .i64 b.2]] w fun e w' => e = .returned (.bool (ltA a b)) ∧ Frm [] w w' := by
  obtain ⟨e, t⟩ := a
  obtain ⟨f, u⟩ := b
  have f0 : Frm [] w (((w.alloc (.cells #[.int .i64 e, .int .i64 t] 55)).alloc (.cells #[.int .i64 f, .int .i64 u] 55))) := (((Frm.refl [] w).alloc _).alloc _)
  simp only
  rcases (show e < f ∨ (¬ e < f ∧ e ≠ f) ∨ (e = f ∧ t < u) ∨ (e = f ∧ ¬ t < u) by omega) with h | ⟨h, h2⟩ | ⟨rfl, h⟩ | ⟨rfl, h⟩
  · have H : Hid (ltA (e, t) (f, u) = true) := by show ltA _ _ = _; simp [ltA, h]
    go_enter Tryz.func44, Tryz.ntmps44
    go_wp2
    go_ret
    exact ⟨by rw [H.out]; rfl, f0⟩
  · have H : Hid (ltA (e, t) (f, u) = false) := by show ltA _ _ = _; simp [ltA, h2]; omega
    have h3 : f ≤ e := by omega
    have h4 : (e == f) = false := by simpa using h2
    have h5 : decide (e < f) = false := by simpa using h3
    clear h h2
    go_enter Tryz.func44, Tryz.ntmps44
    go_wp2
    go_ret
    exact ⟨by rw [H.out]; rfl, f0⟩
  · have H : Hid (ltA (e, t) (e, u) = true) := by show ltA _ _ = _; simp [ltA, h]
    go_enter Tryz.func44, Tryz.ntmps44
    go_wp2
    go_ret
    exact ⟨by rw [H.out]; rfl, f0⟩
  · have H : Hid (ltA (e, t) (e, u) = false) := by show ltA _ _ = _; simp [ltA]; omega
    have h3 : u ≤ t := by omega
    clear h
    go_enter Tryz.func44, Tryz.ntmps44
    go_wp2
    go_ret
    refine ⟨?_, f0⟩
    rw [H.out]
    first | rfl | (simp; omega)

set_option maxRecDepth 100000 in
set_option maxHeartbeats 2000000 in
theorem refLoose_any (B : Nat) (a : Option Addr) (cap : Nat) (l : Lts) (w : World) (h : LAt B w a cap l) :
    Calls Tryz.prog 54 #[.agg #[.slice a l.length cap]] w fun e w' => e = .returned (.bool (looseB l)) ∧ Frm [] w w' := by
  have f0 : Frm [] w (w.alloc (.cells #[.slice a l.length cap] 25)) := (Frm.refl [] w).alloc _
  have hbox := box1 w (.slice a l.length cap) 25
  have hl := h.lt
  have h' := h.nil f0 rfl
  by_cases h1 : (l.length : Int) < 1
  · have HR : Hid (looseB l = false) := by
      show looseB l = false
      rw [looseB, decide_eq_false (by omega)]; rfl
    go_enter Tryz.func54, Tryz.ntmps54
    go_wp2
    go_ret
    exact ⟨by rw [HR.out]; rfl, f0⟩
  · have h1' : 1 ≤ (l.length : Int) := by omega
    by_cases h2 : 16384 < (l.length : Int)
    · have HR : Hid (looseB l = false) := by
        show looseB l = false
        rw [looseB, decide_eq_false (show ¬ l.length ≤ 16384 by omega)]; simp
      go_enter Tryz.func54, Tryz.ntmps54
      go_wp2
      go_ret
      exact ⟨by rw [HR.out]; rfl, f0⟩
    · have h2' : (l.length : Int) ≤ 16384 := by omega
      have HR : Hid (looseB l = looseGo l.length 0 l) := by
        show looseB l = looseGo l.length 0 l
        rw [looseB, decide_eq_true (show 1 ≤ l.length by omega), decide_eq_true (show l.length ≤ 16384 by omega)]; simp
      clear h1 h2
      obtain ⟨R, hR⟩ : ∃ R, looseGo l.length 0 l = R := ⟨_, rfl⟩
      have HRR : Hid (looseB l = R) := by show looseB l = R; rw [HR.out, hR]
      clear HR
      have HB := Lib.hid hbox
      go_enter Tryz.func54, Tryz.ntmps54
      go_wp2_with fail
      clear hbox
      go_loopg [4, 5] l.length (fun g c i wr => ∃ (k used : Nat), g = l.length - k ∧ k ≤ l.length ∧ i = .int .i64 k ∧ used ≤ 262144 ∧ c = .int .i64 (used : Int) ∧
        Frm [] (w.alloc (.cells #[.slice a l.length cap] 25)) wr ∧ looseGo l.length used (l.drop k) = R)
      case atStart => exact ⟨0, 0, rfl, Nat.zero_le _, rfl, by omega, rfl, Frm.refl _ _, hR⟩
      case round =>
        clear hR
        obtain ⟨k, used, rfl, hk, rfl, hus, rfl, hF, hgo⟩ := hrel
        have HF := Lib.hid hF
        have hbc := (HB.out.frm hF (by simp)).cell (i := 0) rfl
        clear hF
        by_cases hlt : k < l.length
        · obtain ⟨row, hrow⟩ : ∃ row, l[k]? = some row := ⟨_, List.getElem?_eq_getElem hlt⟩
          obtain ⟨b, o, ra, rc, rfl, hb, hc0, hrr⟩ := h'.cell k row hrow
          have hc := HF.out.cell hc0 (by simp)
          rw [drop_cons hrow, looseGo] at hgo
          have hrl := hrr.lt
          by_cases hfit : used + row.length ≤ 262144
          · have hfi : (used : Int) + (row.length : Int) ≤ 262144 := by omega
            rw [decide_eq_true hfit, Bool.true_and] at hgo
            have HGO := Lib.hid hgo
            have HRR2 := Lib.hid hrr
            have HC0 := Lib.hid hc0
            clear hgo hrow hrr h' h hc0
            go_wp2_with fail
            go_loopg [6] row.length (fun g i wr => ∃ (j : Nat), g = row.length - j ∧ j ≤ row.length ∧ i = .int .i64 j ∧
              Frm [] (w.alloc (.cells #[.slice (some ⟨b, o, none⟩) l.length cap] 25)) wr ∧ ((row.drop j).all (arcOk l.length) && looseGo l.length (used + row.length) (l.drop (k + 1))) = R)
            case atStart => exact ⟨0, rfl, Nat.zero_le _, rfl, HF.out, HGO.out⟩
            case round =>
              clear hc hbc
              obtain ⟨j, rfl, hj, rfl, hF2, hgo2⟩ := hrel
              have HF2 := Lib.hid hF2
              have hbc2 := (HB.out.frm hF2 (by simp)).cell (i := 0) rfl
              have hc2 := hF2.cell HC0.out (by simp)
              by_cases hjl : j < row.length
              · obtain ⟨⟨e, t⟩, harc⟩ : ∃ x, row[j]? = some x := ⟨_, List.getElem?_eq_getElem hjl⟩
                obtain ⟨b1, o1, rfl, hb1, d1, d2⟩ := (HRR2.out.frm hF2 (by simp)).2.2.2 j e t harc
                rw [drop_cons harc, List.all_cons] at hgo2
                clear hF2
                cases hok : arcOk l.length (e, t) with
                | true =>
                  obtain ⟨k1, k2, k3, k4⟩ := arcOk_true hok
                  rw [hok, Bool.true_and] at hgo2
                  have HGO2 := Lib.hid hgo2
                  clear hgo2 hok harc
                  go_wp2_with fail
                  go_roundg (row.length - (j + 1))
                  case rel => exact ⟨j + 1, rfl, by omega, by go_num, HF2.out.alloc _, HGO2.out⟩
                  case measure => omega
                | false =>
                  rw [hok, Bool.false_and, Bool.false_and] at hgo2
                  have HGO2 := Lib.hid hgo2
                  have hor := arcOk_false hok
                  clear hgo2 hok harc
                  rcases hor with k1 | ⟨k1, k2⟩ | ⟨k1, k2, k3⟩ | ⟨k1, k2, k3, k4⟩
                  all_goals
                    go_wp2_with fail
                    go_ret
                    exact ⟨by rw [HRR.out, ← HGO2.out]; rfl, (f0.trans HF2.out (by simp)).alloc _⟩
              · have : j = row.length := by omega
                subst this
                have HGO2 : Hid (looseGo l.length (used + row.length) (l.drop (k + 1)) = R) := by
                  show looseGo l.length (used + row.length) (l.drop (k + 1)) = R
                  rw [← hgo2, List.drop_length]; simp
                clear hgo2 hF2
                go_wp2_with fail
                go_roundg (l.length - (k + 1))
                case rel => exact ⟨k + 1, used + row.length, rfl, by omega, by go_num, hfit, by go_num, HF2.out, HGO2.out⟩
                case measure => omega
          · have HRF : Hid (R = false) := by
              show R = false
              rw [← hgo, decide_eq_false hfit, Bool.false_and]
            have hf1 : 262144 < (used : Int) + (row.length : Int) := by omega
            clear hgo hrow hrr h' h
            go_wp2_with fail
            go_ret
            exact ⟨by rw [HRR.out, HRF.out]; rfl, f0.trans HF.out (by simp)⟩
        · have : k = l.length := by omega
          subst this
          have HT : Hid (R = true) := by
            show R = true
            rw [← hgo, List.drop_length]; rfl
          clear hgo h' h
          go_wp2_with fail
          go_ret
          exact ⟨by rw [HRR.out, HT.out]; rfl, f0.trans HF.out (by simp)⟩

end Go.Proofs.YtdknbgejhhoaiaaGreat

/- Contract of Valid of the reference. -/
namespace Go.Proofs.YtdknbgejhhoaiaaGreat
open Go.RowKit

set_option maxRecDepth 100000 in
set_option maxHeartbeats 2000000 in
theorem refValid_any (B : Nat) (a : Option Addr) (cap : Nat) (l : Lts) (w : World) (h : LAt B w a cap l) :
    Calls Tryz.prog 25 #[.agg #[.slice a l.length cap]] w fun e w' => e = .returned (.bool (validB l)) ∧ Frm [] w w' := by
  have f0 : Frm [] w (w.alloc (.cells #[.slice a l.length cap] 25)) := (Frm.refl [] w).alloc _
  have hbox := box1 w (.slice a l.length cap) 25
  have hl := h.lt
  have h' := h.nil f0 rfl
  have hlo := refLoose_any B a cap l _ h'
  have HB := Lib.hid hbox
  go_enter Tryz.func25, Tryz.ntmps25
  go_wp2_with fail
  refine hlo.mono ?_
  rintro e w1 ⟨rfl, hf1⟩
  clear hlo hbox
  have F1 := f0.trans hf1 (by simp)
  cases hL : looseB l with
  | false =>
    have HL : Hid (validB l = false) := by show validB l = false; rw [validB, hL, Bool.false_and]
    clear hL h h' f0
    go_wp2_with fail
    go_ret
    exact ⟨by rw [HL.out]; rfl, F1⟩
  | true =>
    obtain ⟨R, hR⟩ : ∃ R, l.all ascB = R := ⟨_, rfl⟩
    have HRR : Hid (validB l = R) := by show validB l = R; rw [validB, hL, Bool.true_and, hR]
    have h1 := h'.nil hf1 rfl
    have hbc := (HB.out.frm hf1 (by simp)).cell (i := 0) rfl
    clear hL h h' f0
    go_wp2_with fail
    clear hbc
    go_loopg [3] l.length (fun g i wr => ∃ (k : Nat), g = l.length - k ∧ k ≤ l.length ∧ i = .int .i64 k ∧ Frm [] w1 wr ∧ (l.drop k).all ascB = R)
    case atStart => exact ⟨0, rfl, Nat.zero_le _, rfl, Frm.refl _ _, hR⟩
    case round =>
      clear hR
      obtain ⟨k, rfl, hk, rfl, hF, hgo⟩ := hrel
      have HF := Lib.hid hF
      have hbc := (HB.out.frm (hf1.trans hF (by simp)) (by simp)).cell (i := 0) rfl
      clear hF
      by_cases hlt : k < l.length
      · obtain ⟨row, hrow⟩ : ∃ row, l[k]? = some row := ⟨_, List.getElem?_eq_getElem hlt⟩
        obtain ⟨b, o, ra, rc, rfl, hb, hc0, hrr⟩ := h1.cell k row hrow
        have hc := HF.out.cell hc0 (by simp)
        rw [drop_cons hrow, List.all_cons] at hgo
        have hrl := hrr.lt
        have HGO := Lib.hid hgo
        have HRR2 := Lib.hid hrr
        have HC0 := Lib.hid hc0
        clear hgo hrow hrr h1 hc0
        go_wp2_with fail
        go_loopg [4] row.length (fun g i wr => ∃ (j : Nat), g = row.length - j ∧ j ≤ row.length ∧ i = .int .i64 ((j : Int) + 1) ∧
          Frm [] w1 wr ∧ (ascB (row.drop j) && (l.drop (k + 1)).all ascB) = R)
        case atStart => exact ⟨0, rfl, Nat.zero_le _, rfl, HF.out, HGO.out⟩
        case round =>
          clear hc hbc
          obtain ⟨j, rfl, hj, rfl, hF2, hgo2⟩ := hrel
          have HF2 := Lib.hid hF2
          have hbc := (HB.out.frm (hf1.trans hF2 (by simp)) (by simp)).cell (i := 0) rfl
          have hc := HF2.out.cell HC0.out (by simp)
          have E1 := Lib.hid hbc
          have E2 := Lib.hid hc
          by_cases hjl : j + 1 < row.length
          · obtain ⟨⟨e, t⟩, harc⟩ : ∃ x, row[j]? = some x := ⟨_, List.getElem?_eq_getElem (by omega)⟩
            obtain ⟨⟨f, u⟩, harc2⟩ : ∃ x, row[j + 1]? = some x := ⟨_, List.getElem?_eq_getElem hjl⟩
            have hrw := HRR2.out.frm hF2 (by simp)
            obtain ⟨b1, o1, rfl, hb1, d1, d2⟩ := hrw.2.2.2 j e t harc
            obtain ⟨b2, o2, hbo, hb2, d3, d4⟩ := hrw.2.2.2 (j + 1) f u harc2
            obtain ⟨rfl, rfl⟩ : b1 = b2 ∧ o1 = o2 := by simpa using hbo
            rw [ascB_two harc harc2] at hgo2
            have D1 := Lib.hid d1
            have D2 := Lib.hid d2
            have D3 := Lib.hid d3
            have D4 := Lib.hid d4
            have hcm := less_any (e, t) (f, u)
            clear hF2 harc harc2 hrw hbo d1 d2 d3 d4
            have hw1 : IntKind.i64.wrap (j : Int) = (j : Int) := IntWalk.i64_in _ (by omega)
            have hi1 : (j : Int) + 1 < (row.length : Int) := by omega
            have hi2 : (j : Int) < (row.length : Int) := by omega
            have hi3 : (0 : Int) ≤ (j : Int) := by omega
            have hi4 : (0 : Int) ≤ (j : Int) + 1 := by omega
            have hn : ((j : Int) + 1).toNat = j + 1 := by omega
            cases hlt2 : ltA (e, t) (f, u) with
            | true =>
              rw [hlt2, Bool.true_and] at hgo2
              have HGO2 := Lib.hid hgo2
              rw [hlt2] at hcm
              have HCM := Lib.hid hcm
              clear hgo2 hlt2 hcm
              go_wp2_with fail
              go_region_held3 (fun w' => w'.cell? ⟨w.heap.size, 0, none⟩ = some (.slice (some ⟨b, o, none⟩) l.length cap) ∧ w'.cell? ⟨b, o + k, none⟩ = some (.slice (some ⟨b1, o1, none⟩) row.length rc) ∧ w'.cell? ⟨b1, o1 + j * 2, none⟩ = some (.int .i64 e) ∧ w'.cell? ⟨b1, o1 + j * 2 + 1, none⟩ = some (.int .i64 t) ∧ w'.cell? ⟨b1, o1 + (j + 1) * 2, none⟩ = some (.int .i64 f) ∧ w'.cell? ⟨b1, o1 + (j + 1) * 2 + 1, none⟩ = some (.int .i64 u)) (first | exact ⟨E1.out, E2.out, D1.out, D2.out, D3.out, D4.out⟩ | exact ⟨hf5.cell E1.out (by simp), hf5.cell E2.out (by simp), hf5.cell D1.out (by simp), hf5.cell D2.out (by simp), hf5.cell D3.out (by simp), hf5.cell D4.out (by simp)⟩) (first | (go_at_call 44; refine (HCM.out _).mono ?_; rintro e5 w5 ⟨rfl, hf5⟩))
              go_wp2_with fail
              go_roundg (row.length - (j + 1))
              case rel => exact ⟨j + 1, rfl, by omega, by go_num, HF2.out.drew.trans hf5 (by simp), HGO2.out⟩
              case measure => omega
            | false =>
              rw [hlt2, Bool.false_and, Bool.false_and] at hgo2
              have HGO2 := Lib.hid hgo2
              rw [hlt2] at hcm
              have HCM := Lib.hid hcm
              clear hgo2 hlt2 hcm
              go_wp2_with fail
              go_region_held3 (fun w' => w'.cell? ⟨w.heap.size, 0, none⟩ = some (.slice (some ⟨b, o, none⟩) l.length cap) ∧ w'.cell? ⟨b, o + k, none⟩ = some (.slice (some ⟨b1, o1, none⟩) row.length rc) ∧ w'.cell? ⟨b1, o1 + j * 2, none⟩ = some (.int .i64 e) ∧ w'.cell? ⟨b1, o1 + j * 2 + 1, none⟩ = some (.int .i64 t) ∧ w'.cell? ⟨b1, o1 + (j + 1) * 2, none⟩ = some (.int .i64 f) ∧ w'.cell? ⟨b1, o1 + (j + 1) * 2 + 1, none⟩ = some (.int .i64 u)) (first | exact ⟨E1.out, E2.out, D1.out, D2.out, D3.out, D4.out⟩ | exact ⟨hf5.cell E1.out (by simp), hf5.cell E2.out (by simp), hf5.cell D1.out (by simp), hf5.cell D2.out (by simp), hf5.cell D3.out (by simp), hf5.cell D4.out (by simp)⟩) (first | (go_at_call 44; refine (HCM.out _).mono ?_; rintro e5 w5 ⟨rfl, hf5⟩))
              go_wp2_with fail
              go_ret
              exact ⟨by rw [HRR.out, ← HGO2.out]; rfl, F1.trans (HF2.out.drew.trans hf5 (by simp)) (by simp)⟩
          · rw [ascB_short (by omega), Bool.true_and] at hgo2
            have HGO2 := Lib.hid hgo2
            clear hgo2 hF2
            have hi1 : (row.length : Int) ≤ (j : Int) + 1 := by omega
            go_wp2_with fail
            go_roundg (l.length - (k + 1))
            case rel => exact ⟨k + 1, rfl, by omega, by go_num, HF2.out, HGO2.out⟩
            case measure => omega
      · have : k = l.length := by omega
        subst this
        have HT : Hid (R = true) := by
          show R = true
          rw [← hgo, List.drop_length]; rfl
        clear hgo h1
        go_wp2_with fail
        go_ret
        exact ⟨by rw [HRR.out, HT.out]; rfl, F1.trans HF.out (by simp)⟩

end Go.Proofs.YtdknbgejhhoaiaaGreat
