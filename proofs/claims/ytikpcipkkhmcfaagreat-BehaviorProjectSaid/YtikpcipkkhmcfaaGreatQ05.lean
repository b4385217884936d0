/- Texts K1, VD, VE. -/
import Derived.Test.YtikpcipkkhmcfaaGreatQ01
import Derived.Shelf.Abstract
import Derived.Deep.DeepCutAuto
import Derived.Test.YtikpcipkkhmcfaaGreatQ04
import Derived.Deep.RegionHeld3
/- Lists of integers: below, Equal, Ints, Has, Index, Contains, IndexFunc, ContainsFunc, Rising, Compare, Or. -/
namespace Go.Proofs.YtikpcipkkhmcfaaGreat.Ind
open Go.Shelf
open Go.RowKit

theorem ret_bool {x y : Bool} (h : x = y) : Ending.returned (.bool x) = .returned (.bool y) := by rw [h]
theorem drop_cons {α : Type} {l : List α} {i : Nat} {x : α} (h : l[i]? = some x) : l.drop i = x :: l.drop (i + 1) := drop_get h
def IdxP (b : Bool) (v : Int) : Prop := (b = true → 0 ≤ v) ∧ (b = false → v = -1)

set_option maxRecDepth 100000 in
theorem ints_same (B : Nat) (a b : Option Addr) (ca cb : Nat) (xs ys : List Int) (w : World) (h1 : Rd B w a xs.length ca 1 (ints xs)) (h2 : Rd B w b ys.length cb 1 (ints ys)) :
  Calls Tryz.prog 34 #[.slice a xs.length ca, .slice b ys.length cb] w fun e w' => e = .returned (.bool (decide (xs = ys))) ∧ Frm [] w w' := by
 have l1 := h1.lt
 have l2 := h2.lt
 have H1 := Lib.hid h1
 have H2 := Lib.hid h2
 clear h1 h2
 by_cases hl : xs.length = ys.length
 ·have HL := Lib.hid hl
  have e0 : ((xs.length : Int) == (ys.length : Int)) = true := by simp [hl]
  have e1 : (xs.length : Int) = (ys.length : Int) := by omega
  clear hl
  go_enter Tryz.func34, Tryz.ntmps34
  go_wp2_with fail
  go_loopg [5] xs.length (fun q i wr => ∃ (k : Nat), q = xs.length - k ∧ k ≤ xs.length ∧ i = .int .i64 k ∧ decide (xs = ys) = decide (xs.drop k = ys.drop k) ∧ Frm [] w wr)
  case atStart => exact ⟨0, rfl, Nat.zero_le _, rfl, by simp, Frm.refl _ _⟩
  case round =>
   obtain ⟨k, rfl, hk, rfl, hd, hF⟩ := hrel
   have HD := Lib.hid hd
   have HF := Lib.hid hF
   have i4 : (0 : Int) ≤ (k : Int) := by omega
   clear hd hF
   by_cases hlt : k < xs.length
   ·have i5 : (k : Int) < (xs.length : Int) := by omega
    have i6 : (k : Int) < (ys.length : Int) := by have := HL.out; omega
    obtain ⟨x, hx⟩ : ∃ x, xs[k]? = some x := ⟨_, List.getElem?_eq_getElem hlt⟩
    obtain ⟨y, hy⟩ : ∃ y, ys[k]? = some y := ⟨_, List.getElem?_eq_getElem (by have := HL.out; omega)⟩
    have hdx := drop_cons hx
    have hdy := drop_cons hy
    obtain ⟨g, o, rfl, _, c1⟩ := H1.out.at hx
    obtain ⟨g', o', rfl, _, c2⟩ := H2.out.at hy
    have d1 := HF.out.cell c1 (by simp)
    have d2 := HF.out.cell c2 (by simp)
    have HDX := Lib.hid hdx
    have HDY := Lib.hid hdy
    clear hx hy hdx hdy c1 c2
    by_cases hxy : x = y
    ·subst hxy
     go_wp2_with fail
     go_quiet (fail)
     go_wp2_with fail
     go_roundg (xs.length - (k + 1))
     case rel => exact ⟨k + 1, rfl, by omega, by go_num, by rw [HD.out, HDX.out, HDY.out]; simp, HF.out.drewN _⟩
     case measure => omega
    ·have hne : (x == y) = false := by simpa using hxy
     have HR : Hid (decide (xs = ys) = false) := Lib.hid (by rw [HD.out, HDX.out, HDY.out]; simp [hxy])
     go_wp2_with fail
     go_quiet (fail)
     go_wp2_with fail
     go_ret
     exact ⟨by rw [HR.out]; rfl, HF.out.drewN _⟩
   ·have i5 : ¬ (k : Int) < (xs.length : Int) := by omega
    have HR : Hid (decide (xs = ys) = true) := Lib.hid (by rw [HD.out, List.drop_eq_nil_of_le (by omega), List.drop_eq_nil_of_le (by have := HL.out; omega)]; simp)
    go_wp2_with fail
    go_ret
    exact ⟨by rw [HR.out]; rfl, HF.out⟩
 ·have e0 : ((xs.length : Int) == (ys.length : Int)) = false := by simp; omega
  have e1 : ¬ (xs.length : Int) = (ys.length : Int) := by omega
  have HR : Hid (decide (xs = ys) = false) := Lib.hid (by simp; rintro rfl; exact hl rfl)
  clear hl
  go_enter Tryz.func34, Tryz.ntmps34
  go_wp2_with fail
  go_ret
  exact ⟨by rw [HR.out]; rfl, Frm.refl _ _⟩

def hasB (xs : List Int) (x : Int) : Bool := xs.any fun y => decide (y = x)
set_option maxRecDepth 100000 in
theorem has_any (B : Nat) (a : Option Addr) (cap : Nat) (xs : List Int) (x : Int) (w : World) (h : Rd B w a xs.length cap 1 (ints xs)) :
  Calls Tryz.prog 107 #[.slice a xs.length cap, .int .i64 x] w fun e w' => e = .returned (.bool (hasB xs x)) ∧ Frm [] w w' := by
 have l1 := h.lt
 obtain ⟨R, hR⟩ : ∃ R, hasB xs x = R := ⟨_, rfl⟩
 rw [hR]
 have H := Lib.hid h
 clear h
 go_enter Tryz.func107, Tryz.ntmps107
 go_wp2_with fail
 go_loopg [5] xs.length (fun q i wr => ∃ (k : Nat), q = xs.length - k ∧ k ≤ xs.length ∧ i = .int .i64 k ∧ hasB (xs.drop k) x = R ∧ Frm [] w wr)
 case atStart => exact ⟨0, rfl, Nat.zero_le _, rfl, hR, Frm.refl _ _⟩
 case round =>
  clear hR
  obtain ⟨k, rfl, hk, rfl, hd, hF⟩ := hrel
  have HF := Lib.hid hF
  have i4 : (0 : Int) ≤ (k : Int) := by omega
  clear hF
  by_cases hlt : k < xs.length
  ·have i5 : (k : Int) < (xs.length : Int) := by omega
   obtain ⟨y, hy⟩ : ∃ y, xs[k]? = some y := ⟨_, List.getElem?_eq_getElem hlt⟩
   rw [drop_cons hy, hasB, List.any_cons] at hd
   obtain ⟨g, o, rfl, _, c1⟩ := H.out.at hy
   have d1 := HF.out.cell c1 (by simp)
   clear c1 hy
   by_cases hxy : y = x
   ·subst hxy
    have HD : Hid (R = true) := Lib.hid (by rw [← hd]; simp)
    clear hd
    go_wp2_with fail
    go_ret
    exact ⟨by rw [HD.out]; rfl, HF.out⟩
   ·have hne : (y == x) = false := by simpa using hxy
    rw [decide_eq_false hxy, Bool.false_or] at hd
    have HD := Lib.hid hd
    clear hd hxy
    go_wp2_with fail
    go_roundg (xs.length - (k + 1))
    case rel => exact ⟨k + 1, rfl, by omega, by go_num, HD.out, HF.out⟩
    case measure => omega
  ·have i5 : ¬ (k : Int) < (xs.length : Int) := by omega
   have HR : Hid (R = false) := Lib.hid (by rw [← hd, List.drop_eq_nil_of_le (by omega)]; rfl)
   clear hd
   go_wp2_with fail
   go_ret
   exact ⟨by rw [HR.out]; rfl, HF.out⟩

set_option maxRecDepth 100000 in
theorem rising_any (B : Nat) (a : Option Addr) (cap : Nat) (xs : List Int) (w : World) (h : Rd B w a xs.length cap 1 (ints xs)) :
  Calls Tryz.prog 80 #[.slice a xs.length cap] w fun e w' => e = .returned (.bool (ascB xs)) ∧ Frm [] w w' := by
 have l1 := h.lt
 obtain ⟨R, hR⟩ : ∃ R, ascB xs = R := ⟨_, rfl⟩
 rw [hR]
 have H := Lib.hid h
 clear h
 go_enter Tryz.func80, Tryz.ntmps80
 go_wp2_with fail
 go_loopg [3] xs.length (fun q i wr => ∃ (k : Nat), q = xs.length - k ∧ i = .int .i64 ((k + 1 : Nat) : Int) ∧ k ≤ xs.length ∧ ascB (xs.drop k) = R ∧ Frm [] w wr)
 case atStart => exact ⟨0, rfl, rfl, Nat.zero_le _, hR, Frm.refl _ _⟩
 case round =>
  clear hR
  obtain ⟨k, rfl, rfl, hk, hd, hF⟩ := hrel
  have HF := Lib.hid hF
  have i4 : (0 : Int) ≤ ((k + 1 : Nat) : Int) := by omega
  have i3 : IntKind.i64.wrap (((k + 1 : Nat) : Int) - 1) = (k : Int) := by rw [IntWalk.i64_in _ (by omega)]; omega
  have i2 : (0 : Int) ≤ (k : Int) := by omega
  clear hF
  by_cases hlt : k + 1 < xs.length
  ·have i5 : ((k + 1 : Nat) : Int) < (xs.length : Int) := by omega
   have i6 : (k : Int) < (xs.length : Int) := by omega
   obtain ⟨x, hx⟩ : ∃ x, xs[k]? = some x := ⟨_, List.getElem?_eq_getElem (by omega)⟩
   obtain ⟨y, hy⟩ : ∃ y, xs[k + 1]? = some y := ⟨_, List.getElem?_eq_getElem hlt⟩
   rw [drop_cons hx, drop_cons hy, ascB] at hd
   obtain ⟨g, o, rfl, _, c1⟩ := H.out.at hx
   obtain ⟨g', o', e9, _, c2⟩ := H.out.at hy
   cases e9
   have d1 := HF.out.cell c1 (by simp)
   have d2 := HF.out.cell c2 (by simp)
   clear c1 c2
   by_cases hxy : x < y
   ·have hxy2 : ¬ y ≤ x := by omega
    rw [decide_eq_true hxy, Bool.true_and, ← drop_cons hy] at hd
    have HD := Lib.hid hd
    clear hd hx hy
    generalize hk1 : k + 1 = k1 at *
    go_wp2_with fail
    go_quiet (fail)
    go_wp2_with fail
    go_roundg (xs.length - k1)
    case rel => exact ⟨k1, rfl, by first | rfl | go_num, by omega, HD.out, HF.out.drewN _⟩
    case measure => omega
   ·have hxy2 : y ≤ x := by omega
    rw [decide_eq_false hxy, Bool.false_and] at hd
    have HD := Lib.hid hd
    clear hd hx hy hxy
    generalize hk1 : k + 1 = k1 at *
    go_wp2_with fail
    go_quiet (fail)
    go_wp2_with fail
    go_ret
    exact ⟨by rw [← HD.out]; rfl, HF.out.drewN _⟩
  ·have i5 : ¬ ((k + 1 : Nat) : Int) < (xs.length : Int) := by omega
   have HR : Hid (R = true) := Lib.hid (by
    rw [← hd]
    have hl : (xs.drop k).length ≤ 1 := by rw [List.length_drop]; omega
    match xs.drop k, hl with
    | [], _ => rfl
    | [_], _ => rfl)
   clear hd
   go_wp2_with fail
   go_ret
   exact ⟨by rw [HR.out]; rfl, HF.out⟩

end Go.Proofs.YtikpcipkkhmcfaaGreat.Ind

/- Ascending lists, the order of lists, sets held against sets. -/
namespace Go.Proofs.YtikpcipkkhmcfaaGreat.Beh
open Go.RowKit Go.Lib Go.Proofs.YtikpcipkkhmcfaaGreat Go.Proofs.YtikpcipkkhmcfaaGreat.Ind

set_option maxRecDepth 100000 in
theorem ascend_any (B : Nat) (a : Option Addr) (cap : Nat) (xs : List Int) (w : World) (h : Rd B w a xs.length cap 1 (ints xs)) :
  Calls Tryz.prog 101 #[.slice a xs.length cap] w fun e w' => e = .returned (.bool (Ind.ascB xs)) ∧ Frm [] w w' := by
 have l1 := h.lt
 obtain ⟨R, hR⟩ : ∃ R, Ind.ascB xs = R := ⟨_, rfl⟩
 rw [hR]
 have H := Lib.hid h
 clear h
 go_enter Tryz.func101, Tryz.ntmps101
 go_wp2_with fail
 go_loopg [3] xs.length (fun q i wr => ∃ (k : Nat), q = xs.length - k ∧ i = .int .i64 ((k + 1 : Nat) : Int) ∧ k ≤ xs.length ∧ Ind.ascB (xs.drop k) = R ∧ Frm [] w wr)
 case atStart => exact ⟨0, rfl, rfl, Nat.zero_le _, hR, Frm.refl _ _⟩
 case round =>
  clear hR
  obtain ⟨k, rfl, rfl, hk, hd, hF⟩ := hrel
  have HF := Lib.hid hF
  have i4 : (0 : Int) ≤ ((k + 1 : Nat) : Int) := by omega
  have i3 : IntKind.i64.wrap (((k + 1 : Nat) : Int) - 1) = (k : Int) := by rw [IntWalk.i64_in _ (by omega)]; omega
  have i2 : (0 : Int) ≤ (k : Int) := by omega
  clear hF
  by_cases hlt : k + 1 < xs.length
  ·have i5 : ((k + 1 : Nat) : Int) < (xs.length : Int) := by omega
   have i6 : (k : Int) < (xs.length : Int) := by omega
   obtain ⟨x, hx⟩ : ∃ x, xs[k]? = some x := ⟨_, List.getElem?_eq_getElem (by omega)⟩
   obtain ⟨y, hy⟩ : ∃ y, xs[k + 1]? = some y := ⟨_, List.getElem?_eq_getElem hlt⟩
   rw [drop_cons hx, drop_cons hy, Ind.ascB] at hd
   obtain ⟨g, o, rfl, _, c1⟩ := H.out.at hx
   obtain ⟨g', o', e9, _, c2⟩ := H.out.at hy
   cases e9
   have d1 := HF.out.cell c1 (by simp)
   have d2 := HF.out.cell c2 (by simp)
   clear c1 c2
   by_cases hxy : x < y
   ·have hxy2 : ¬ y ≤ x := by omega
    rw [decide_eq_true hxy, Bool.true_and, ← drop_cons hy] at hd
    have HD := Lib.hid hd
    clear hd hx hy
    generalize hk1 : k + 1 = k1 at *
    go_wp2_with fail
    go_quiet (fail)
    go_wp2_with fail
    go_roundg (xs.length - k1)
    case rel => exact ⟨k1, rfl, by first | rfl | go_num, by omega, HD.out, HF.out.drewN _⟩
    case measure => omega
   ·have hxy2 : y ≤ x := by omega
    rw [decide_eq_false hxy, Bool.false_and] at hd
    have HD := Lib.hid hd
    clear hd hx hy hxy
    generalize hk1 : k + 1 = k1 at *
    go_wp2_with fail
    go_quiet (fail)
    go_wp2_with fail
    go_ret
    exact ⟨by rw [← HD.out]; rfl, HF.out.drewN _⟩
  ·have i5 : ¬ ((k + 1 : Nat) : Int) < (xs.length : Int) := by omega
   have HR : Hid (R = true) := Lib.hid (by
    rw [← hd]
    have hl : (xs.drop k).length ≤ 1 := by rw [List.length_drop]; omega
    match xs.drop k, hl with
    | [], _ => rfl
    | [_], _ => rfl)
   clear hd
   go_wp2_with fail
   go_ret
   exact ⟨by rw [HR.out]; rfl, HF.out⟩
set_option maxRecDepth 100000 in
theorem lessInts_any (B C : Nat) (a b : Option Addr) (ca cb : Nat) (xs ys : List Int) (w : World) (h1 : Rd B w a xs.length ca 1 (ints xs)) (h2 : Rd C w b ys.length cb 1 (ints ys)) :
  Calls Tryz.prog 50 #[.slice a xs.length ca, .slice b ys.length cb] w fun e w' => e = .returned (.bool (ltL xs ys)) ∧ Frm [] w w' := by
 have l1 := h1.lt
 have l2 := h2.lt
 obtain ⟨R, hR⟩ : ∃ R, ltL xs ys = R := ⟨_, rfl⟩
 rw [hR]
 have H1 := Lib.hid h1
 have H2 := Lib.hid h2
 have HR := Lib.hid hR
 clear h1 h2 hR
 go_enter Tryz.func50, Tryz.ntmps50
 go_wp2_with fail
 go_loopg [5] xs.length (fun q i wr => ∃ (k : Nat), q = xs.length - k ∧ k ≤ xs.length ∧ k ≤ ys.length ∧ i = .int .i64 k ∧ ltL (xs.drop k) (ys.drop k) = R ∧ Frm [] w wr)
 case atStart => exact ⟨0, rfl, Nat.zero_le _, Nat.zero_le _, rfl, HR.out, Frm.refl _ _⟩
 case round =>
  clear HR
  obtain ⟨k, rfl, hk, hk2, rfl, hd, hF⟩ := hrel
  have HF := Lib.hid hF
  have i4 : (0 : Int) ≤ (k : Int) := by omega
  clear hF
  by_cases hlt : k < xs.length
  ·have i5 : (k : Int) < (xs.length : Int) := by omega
   obtain ⟨x, hx⟩ : ∃ x, xs[k]? = some x := ⟨_, List.getElem?_eq_getElem hlt⟩
   rw [drop_cons hx] at hd
   by_cases hlt2 : k < ys.length
   ·have i6 : (k : Int) < (ys.length : Int) := by omega
    obtain ⟨y, hy⟩ : ∃ y, ys[k]? = some y := ⟨_, List.getElem?_eq_getElem hlt2⟩
    rw [drop_cons hy, ltL] at hd
    obtain ⟨g, o, rfl, _, c1⟩ := H1.out.at hx
    obtain ⟨g', o', rfl, _, c2⟩ := H2.out.at hy
    have d1 := HF.out.cell c1 (by simp)
    have d2 := HF.out.cell c2 (by simp)
    clear c1 c2 hx hy
    by_cases hc : x = y
    ·subst hc
     simp only [Int.lt_irrefl, decide_false, Bool.false_or, decide_true, Bool.true_and] at hd
     have HD := Lib.hid hd
     clear hd
     go_wp2_with fail
     go_quiet (fail)
     go_wp2_with fail
     go_roundg (xs.length - (k + 1))
     case rel => exact ⟨k + 1, rfl, by omega, by omega, by go_num, HD.out, HF.out.drewN _⟩
     case measure => omega
    ·have hne : (x != y) = true := by simpa using hc
     have hd2 : decide (x < y) = R := by
      rw [← hd]
      simp [hc]
     have HD := Lib.hid hd2
     clear hd hd2
     go_wp2_with fail
     go_quiet (fail)
     go_wp2_with fail
     go_quiet (fail)
     go_wp2_with fail
     go_ret
     exact ⟨by rw [← HD.out]; rfl, (HF.out.drewN _).drewN _⟩
   ·have i6 : ¬ (k : Int) < (ys.length : Int) := by omega
    have e9 : ys.drop k = [] := List.drop_eq_nil_of_le (by omega)
    rw [e9, ltL] at hd
    have i7 : ¬ (xs.length : Int) < (ys.length : Int) := by omega
    have HD := Lib.hid hd
    clear hx hd
    go_wp2_with fail
    go_ret
    exact ⟨by rw [← HD.out]; first | rfl | (simp [i7]; done), HF.out⟩
  ·have i5 : ¬ (k : Int) < (xs.length : Int) := by omega
   have e9 : xs.drop k = [] := List.drop_eq_nil_of_le (by omega)
   rw [e9] at hd
   by_cases hlt2 : k < ys.length
   ·have i6 : (xs.length : Int) < (ys.length : Int) := by omega
    obtain ⟨y, hy⟩ : ∃ y, ys[k]? = some y := ⟨_, List.getElem?_eq_getElem hlt2⟩
    rw [drop_cons hy, ltL] at hd
    have HD := Lib.hid hd
    clear hy hd
    go_wp2_with fail
    go_ret
    exact ⟨by rw [← HD.out]; first | rfl | (simp [i6]; done), HF.out⟩
   ·have i6 : ¬ (xs.length : Int) < (ys.length : Int) := by omega
    have e10 : ys.drop k = [] := List.drop_eq_nil_of_le (by omega)
    rw [e10, ltL] at hd
    have HD := Lib.hid hd
    clear hd
    go_wp2_with fail
    go_ret
    exact ⟨by rw [← HD.out]; first | rfl | (simp [i6]; done), HF.out⟩
end Go.Proofs.YtikpcipkkhmcfaaGreat.Beh

/- The reference's order of traces, equal sets of sets, subsets. -/
namespace Go.Proofs.YtikpcipkkhmcfaaGreat.Beh
open Go.RowKit Go.Lib Go.Proofs.YtikpcipkkhmcfaaGreat Go.Proofs.YtikpcipkkhmcfaaGreat.Ind

set_option maxRecDepth 100000 in
theorem refLess_any {F G : List Nat} (w : World) (u v : Value) (a b : List Int) (h1 : RowV w F u a.length 1 (ints a)) (h2 : RowV w G v b.length 1 (ints b)) :
  Calls Tryz.prog 25 #[u, v] w fun e w' => e = .returned (.bool (ltT a b)) ∧ Frm [] w w' := by
 obtain ⟨aa, ac, rfl⟩ := RowV.shape h1
 obtain ⟨ba, bc, rfl⟩ := RowV.shape h2
 have l1 := h1.rd.lt
 have l2 := h2.rd.lt
 have HL := Lib.hid (lessInts_any w.heap.size w.heap.size aa ba ac bc a b w h1.rd h2.rd)
 clear h1 h2
 by_cases hl : a.length = b.length
 ·have hb : ((a.length : Int) != (b.length : Int)) = false := by rw [hl]; simp
  have HR : Hid (ltT a b = ltL a b) := Lib.hid (by simp [ltT, ltN, hl])
  obtain ⟨r, hr⟩ : ∃ r, r = ltL a b := ⟨_, rfl⟩
  rw [← hr] at HL HR
  clear hr hl
  go_enter Tryz.func25, Tryz.ntmps25
  go_wp2_with (go_at_call 50; refine HL.out.mono ?_; rintro e1 w1 ⟨rfl, hf1⟩)
  go_ret
  exact ⟨by rw [HR.out]; rfl, hf1⟩
 ·have hb : ((a.length : Int) != (b.length : Int)) = true := by simp; omega
  have HR : Hid (decide (a.length < b.length) = ltT a b) := Lib.hid (by
   rw [Bool.eq_iff_iff]
   simp only [ltT, ltN, Bool.or_eq_true, decide_eq_true_eq, Bool.and_eq_true]
   constructor
   ·intro h
    exact .inl (by omega)
   ·rintro (h | ⟨h, _⟩)
    ·omega
    ·omega)
  clear hl
  go_enter Tryz.func25, Tryz.ntmps25
  go_wp2_with fail
  go_ret
  exact ⟨by rw [← HR.out]; rfl, Frm.refl _ _⟩
theorem sets_few {w : World} {F : List Nat} {v : Value} {l : List (List Int)} (h : SetsAt w F v l) : (l.length : Int) ≤ 9223372036854775807 := by
 obtain ⟨_, _, h2, _⟩ := h
 obtain ⟨a, c, rfl⟩ := h2.shape
 exact h2.rd.lt
theorem take_next2 {α : Type} {r1 r2 : List α} {k : Nat} {x : α} (h : r1.take k = r2.take k) (h1 : r1[k]? = some x) (h2 : r2[k]? = some x) : r1.take (k + 1) = r2.take (k + 1) := by
 rw [List.take_add_one, List.take_add_one, h1, h2, h]
set_option linter.unusedSimpArgs false in
set_option maxRecDepth 100000 in
set_option maxHeartbeats 4000000 in
theorem refSets_any {F G : List Nat} (w : World) (v1 v2 : Value) (r1 r2 : List (List Int)) (h1 : SetsAt w F v1 r1) (h2 : SetsAt w G v2 r2) :
  Calls Tryz.prog 71 #[v1, v2] w fun e w' => e = .returned (.bool (decide (r1 = r2))) ∧ Frm [] w w' := by
 have f1 := sets_few h1
 have f2 := sets_few h2
 obtain ⟨a1, c1, rfl⟩ := h1.shape
 obtain ⟨a2, c2, rfl⟩ := h2.shape
 have H1 := Lib.hid h1
 have H2 := Lib.hid h2
 clear h1 h2
 by_cases hl : r1.length = r2.length
 ·have HL := Lib.hid hl
  have jn : ((r1.length : Int) != (r2.length : Int)) = false := by rw [hl]; simp
  clear hl
  go_enter Tryz.func71, Tryz.ntmps71
  go_wp2_with fail
  go_loopg [5] r1.length (fun q t wr => ∃ (k : Nat), q = r1.length - k ∧ k ≤ r1.length ∧ t = .int .i64 k ∧ r1.take k = r2.take k ∧ Frm [] w wr)
  case atStart => exact ⟨0, rfl, Nat.zero_le _, rfl, rfl, Frm.refl _ _⟩
  case round =>
   obtain ⟨k, hq, hk, rfl, htk, hF⟩ := hrel
   have HQ := Lib.hid hq
   have FW := Lib.hid hF
   have HT := Lib.hid htk
   have i4 : (0 : Int) ≤ (k : Int) := by omega
   clear hq hF htk
   by_cases hlt : k < r1.length
   ·have i5 : (k : Int) < (r1.length : Int) := by omega
    have hlt2 : k < r2.length := by have := HL.out; omega
    have i6 : (k : Int) < (r2.length : Int) := by omega
    obtain ⟨x, hx⟩ : ∃ x, r1[k]? = some x := ⟨_, List.getElem?_eq_getElem hlt⟩
    obtain ⟨y, hy⟩ : ∃ y, r2[k]? = some y := ⟨_, List.getElem?_eq_getElem hlt2⟩
    obtain ⟨b1, o1, d1, a3, c3, e1, x1, x2⟩ := H1.out.at_ hx
    obtain ⟨rfl, rfl⟩ : a1 = some ⟨b1, o1, none⟩ ∧ c1 = d1 := by simpa using e1
    obtain ⟨b2, o2, d2, a4, c4, e2, y1, y2⟩ := H2.out.at_ hy
    obtain ⟨rfl, rfl⟩ : a2 = some ⟨b2, o2, none⟩ ∧ c2 = d2 := by simpa using e2
    have HX := Lib.hid hx
    have HY := Lib.hid hy
    have KEEP : Hid (∀ w', Frm [] wr w' → w'.cell? ⟨b1, o1 + k, none⟩ = some (.slice a3 x.length c3) ∧ w'.cell? ⟨b2, o2 + k, none⟩ = some (.slice a4 y.length c4)) := Lib.hid fun w' hf => ⟨(FW.out.trans hf (by simp)).cell x1 (by simp), (FW.out.trans hf (by simp)).cell y1 (by simp)⟩
    have HC : Hid (∀ W, Frm [] wr W → Calls Tryz.prog 34 #[.slice a3 x.length c3, .slice a4 y.length c4] W fun e w' => e = .returned (.bool (decide (x = y))) ∧ Frm [] W w') := Lib.hid fun W hf => Go.Proofs.YtikpcipkkhmcfaaGreat.ints_same W.heap.size a3 a4 c3 c4 x y W (x2.nil (FW.out.trans hf (by simp))).rd (y2.nil (FW.out.trans hf (by simp))).rd
    clear x1 x2 y1 y2 hx hy e1 e2
    go_wp2_with fail
    by_cases hxy : x = y
    ·have HXY := Lib.hid hxy
     have hc := HC.out
     rw [decide_eq_true hxy] at hc
     have HC2 := Lib.hid hc
     clear hxy hc HC
     go_region_held3 (fun w' => w'.cell? ⟨b1, o1 + k, none⟩ = some (.slice a3 x.length c3) ∧ w'.cell? ⟨b2, o2 + k, none⟩ = some (.slice a4 y.length c4))
      (first | exact KEEP.out _ (Frm.refl [] wr).drew | exact KEEP.out _ hy5)
      (first | (go_at_call 34; refine (HC2.out _ (Frm.refl [] wr).drew).mono ?_; rintro e5 w5 ⟨rfl, hf5⟩; have hy5 := (Frm.refl [] wr).drew.trans hf5 (by simp)))
     go_wp2_with fail
     go_roundg (r1.length - (k + 1))
     case rel => exact ⟨k + 1, rfl, by omega, by go_num, take_next2 HT.out HX.out (by rw [HXY.out]; exact HY.out), FW.out.trans hy5 (by simp)⟩
     case measure => have := HQ.out; omega
    ·have hc := HC.out
     rw [decide_eq_false hxy] at hc
     have HC2 := Lib.hid hc
     have HR : Hid (decide (r1 = r2) = false) := Lib.hid (by
      rw [decide_eq_false_iff_not]
      intro h9
      have h8 := HX.out
      rw [h9, HY.out] at h8
      exact hxy (by cases h8; rfl))
     clear hxy hc HC
     go_region_held3 (fun w' => w'.cell? ⟨b1, o1 + k, none⟩ = some (.slice a3 x.length c3) ∧ w'.cell? ⟨b2, o2 + k, none⟩ = some (.slice a4 y.length c4))
      (first | exact KEEP.out _ (Frm.refl [] wr).drew | exact KEEP.out _ hy5)
      (first | (go_at_call 34; refine (HC2.out _ (Frm.refl [] wr).drew).mono ?_; rintro e5 w5 ⟨rfl, hf5⟩; have hy5 := (Frm.refl [] wr).drew.trans hf5 (by simp)))
     go_wp2_with fail
     go_ret
     exact ⟨by rw [HR.out]; rfl, FW.out.trans hy5 (by simp)⟩
   ·have i5 : ¬ (k : Int) < (r1.length : Int) := by omega
    have HR : Hid (decide (r1 = r2) = true) := Lib.hid (by
     have e := HT.out
     rw [List.take_of_length_le (by omega), List.take_of_length_le (by have := HL.out; omega)] at e
     rw [e]; simp)
    go_wp2_with fail
    go_ret
    exact ⟨by rw [HR.out]; rfl, FW.out⟩
 ·have jn : ((r1.length : Int) != (r2.length : Int)) = true := by simp; omega
  have HR : Hid (decide (r1 = r2) = false) := Lib.hid (by simp; rintro rfl; exact hl rfl)
  clear hl
  go_enter Tryz.func71, Tryz.ntmps71
  go_wp2_with fail
  go_ret
  exact ⟨by rw [HR.out]; rfl, Frm.refl _ _⟩
set_option maxRecDepth 100000 in
theorem refSubset_any {F G : List Nat} (w : World) (u v : Value) (a b : List Int) (h1 : RowV w F u a.length 1 (ints a)) (h2 : RowV w G v b.length 1 (ints b)) :
  Calls Tryz.prog 81 #[u, v] w fun e w' => e = .returned (.bool (subI a b)) ∧ Frm [] w w' := by
 obtain ⟨aa, ac, rfl⟩ := RowV.shape h1
 obtain ⟨ba, bc, rfl⟩ := RowV.shape h2
 have l1 := h1.rd.lt
 have l2 := h2.rd.lt
 have H1 := Lib.hid h1
 have H2 := Lib.hid h2
 clear h1 h2
 go_enter Tryz.func81, Tryz.ntmps81
 go_wp2_with fail
 go_loopg [5] a.length (fun q i wr => ∃ (k : Nat), q = a.length - k ∧ k ≤ a.length ∧ i = .int .i64 k ∧ subI (a.drop k) b = subI a b ∧ Frm [] w wr)
 case atStart => exact ⟨0, rfl, Nat.zero_le _, rfl, rfl, Frm.refl _ _⟩
 case round =>
  obtain ⟨k, hq, hk, rfl, hd, hF⟩ := hrel
  have HQ := Lib.hid hq
  have HF := Lib.hid hF
  have i4 : (0 : Int) ≤ (k : Int) := by omega
  clear hq hF
  by_cases hlt : k < a.length
  ·have i5 : (k : Int) < (a.length : Int) := by omega
   obtain ⟨x, hx⟩ : ∃ x, a[k]? = some x := ⟨_, List.getElem?_eq_getElem hlt⟩
   rw [drop_cons hx] at hd
   obtain ⟨g, o, rfl, _, c1⟩ := H1.out.rd.at hx
   have d1 := HF.out.cell c1 (by simp)
   have hcall := Go.Proofs.YtikpcipkkhmcfaaGreat.has_any wr.heap.size ba bc b x wr (H2.out.nil HF.out).rd
   have hsx : subI (x :: a.drop (k + 1)) b = (Go.Proofs.YtikpcipkkhmcfaaGreat.hasB b x && subI (a.drop (k + 1)) b) := by
    rw [Bool.eq_iff_iff, Bool.and_eq_true, subI_iff, subI_iff]
    simp [Go.Proofs.YtikpcipkkhmcfaaGreat.hasB]
   rw [hsx] at hd
   clear c1 hx hsx
   cases hb : Go.Proofs.YtikpcipkkhmcfaaGreat.hasB b x with
   | true =>
    rw [hb] at hcall hd
    rw [Bool.true_and] at hd
    have HC := Lib.hid hcall
    have HD := Lib.hid hd
    clear hcall hd hb
    go_wp2_with (go_at_call 107; refine HC.out.mono ?_; rintro e5 w5 ⟨rfl, hf5⟩)
    go_roundg (a.length - (k + 1))
    case rel => exact ⟨k + 1, rfl, by omega, by go_num, HD.out, HF.out.trans hf5 (by simp)⟩
    case measure => have := HQ.out; omega
   | false =>
    rw [hb] at hcall hd
    rw [Bool.false_and] at hd
    have HC := Lib.hid hcall
    have HD := Lib.hid hd
    clear hcall hd hb
    go_wp2_with (go_at_call 107; refine HC.out.mono ?_; rintro e5 w5 ⟨rfl, hf5⟩)
    go_ret
    exact ⟨by rw [← HD.out]; rfl, HF.out.trans hf5 (by simp)⟩
  ·have i5 : ¬ (k : Int) < (a.length : Int) := by omega
   have HD : Hid (subI a b = true) := Lib.hid (by rw [← hd, List.drop_eq_nil_of_le (by omega)]; rfl)
   clear hd
   go_wp2_with fail
   go_ret
   exact ⟨by rw [HD.out]; rfl, HF.out⟩
end Go.Proofs.YtikpcipkkhmcfaaGreat.Beh
