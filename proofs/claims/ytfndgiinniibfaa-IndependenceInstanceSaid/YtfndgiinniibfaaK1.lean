/- Lists of integers: below, Equal, Ints, Has, Index, Contains, IndexFunc, ContainsFunc, Rising, Compare, Or. -/
import Derived.Test.YtfndgiinniibfaaI2
import Derived.Shelf.Abstract
import Derived.Deep.DeepCutAuto
namespace Go.Proofs.Ytfndgiinniibfaa.Ind
open Go.Shelf
open Go.RowKit

theorem ret_bool {x y : Bool} (h : x = y) : Ending.returned (.bool x) = .returned (.bool y) := by rw [h]
theorem ret_int {a b : Int} (h : a = b) : Ending.returned (.int .i64 a) = .returned (.int .i64 b) := by rw [h]
theorem drop_cons {α : Type} {l : List α} {i : Nat} {x : α} (h : l[i]? = some x) : l.drop i = x :: l.drop (i + 1) := drop_get h
def IdxP (b : Bool) (v : Int) : Prop := (b = true → 0 ≤ v) ∧ (b = false → v = -1)

theorem below_any (n limit : Int) (w : World) : Calls Try.prog 23 #[.int .i64 n, .int .i64 limit] w fun e w' => e = .returned (.bool (belowB n limit)) ∧ w' = w := by
  by_cases h1 : 0 ≤ n
  · by_cases h2 : n < limit
    · have hb : belowB n limit = true := by simp [belowB, h1, h2]
      rw [hb]
      clear hb
      go_enter Try.func23, Try.ntmps23
      go_wp2_with fail
      go_ret
      exact ⟨rfl, rfl⟩
    · have hb : belowB n limit = false := by simp [belowB, h2]
      rw [hb]
      clear hb
      go_enter Try.func23, Try.ntmps23
      go_wp2_with fail
      go_ret
      exact ⟨rfl, rfl⟩
  · have hb : belowB n limit = false := by simp [belowB, h1]
    rw [hb]
    clear hb
    go_enter Try.func23, Try.ntmps23
    go_wp2_with fail
    go_ret
    exact ⟨rfl, rfl⟩

set_option maxRecDepth 100000 in
theorem ints_same (B : Nat) (a b : Option Addr) (ca cb : Nat) (xs ys : List Int) (w : World) (h1 : Rd B w a xs.length ca 1 (ints xs)) (h2 : Rd B w b ys.length cb 1 (ints ys)) :
    Calls Try.prog 60 #[.slice a xs.length ca, .slice b ys.length cb] w fun e w' => e = .returned (.bool (decide (xs = ys))) ∧ Frm [] w w' := by
  have l1 := h1.lt
  have l2 := h2.lt
  have H1 := Lib.hid h1
  have H2 := Lib.hid h2
  clear h1 h2
  by_cases hl : xs.length = ys.length
  · have HL := Lib.hid hl
    have e0 : ((xs.length : Int) == (ys.length : Int)) = true := by simp [hl]
    have e1 : (xs.length : Int) = (ys.length : Int) := by omega
    clear hl
    go_enter Try.func60, Try.ntmps60
    go_wp2_with fail
    go_loopg [5] xs.length (fun q i wr => ∃ (k : Nat), q = xs.length - k ∧ k ≤ xs.length ∧ i = .int .i64 k ∧ decide (xs = ys) = decide (xs.drop k = ys.drop k) ∧ Frm [] w wr)
    case atStart => exact ⟨0, rfl, Nat.zero_le _, rfl, by simp, Frm.refl _ _⟩
    case round =>
      obtain ⟨k, rfl, hk, rfl, hd, hF⟩ := hrel
      have HD := Lib.hid hd
      have HF := Lib.hid hF
      have i4 : (0 : Int) ≤ (k : Int) := by omega
      clear hd hF
      by_cases hlt : k < xs.length
      · have i5 : (k : Int) < (xs.length : Int) := by omega
        have i6 : (k : Int) < (ys.length : Int) := by have := HL.out; omega
        obtain ⟨x, hx⟩ : ∃ x, xs[k]? = some x := ⟨_, List.getElem?_eq_getElem hlt⟩
        obtain ⟨y, hy⟩ : ∃ y, ys[k]? = some y := ⟨_, List.getElem?_eq_getElem (by have := HL.out; omega)⟩
        have hdx := drop_cons hx
        have hdy := drop_cons hy
        obtain ⟨g, o, rfl, _, c1⟩ := H1.out.at hx
        obtain ⟨g', o', rfl, _, c2⟩ := H2.out.at hy
        have d1 := HF.out.cell c1 (by simp)
        have d2 := HF.out.cell c2 (by simp)
        have HDX := Lib.hid hdx
        have HDY := Lib.hid hdy
        clear hx hy hdx hdy c1 c2
        by_cases hxy : x = y
        · subst hxy
          go_wp2_with fail
          go_quiet (fail)
          go_wp2_with fail
          go_roundg (xs.length - (k + 1))
          case rel => exact ⟨k + 1, rfl, by omega, by go_num, by rw [HD.out, HDX.out, HDY.out]; simp, HF.out.drewN _⟩
          case measure => omega
        · have hne : (x == y) = false := by simpa using hxy
          have HR : Hid (decide (xs = ys) = false) := Lib.hid (by rw [HD.out, HDX.out, HDY.out]; simp [hxy])
          go_wp2_with fail
          go_quiet (fail)
          go_wp2_with fail
          go_ret
          exact ⟨by rw [HR.out]; rfl, HF.out.drewN _⟩
      · have i5 : ¬ (k : Int) < (xs.length : Int) := by omega
        have HR : Hid (decide (xs = ys) = true) := Lib.hid (by rw [HD.out, List.drop_eq_nil_of_le (by omega), List.drop_eq_nil_of_le (by have := HL.out; omega)]; simp)
        go_wp2_with fail
        go_ret
        exact ⟨by rw [HR.out]; rfl, HF.out⟩
  · have e0 : ((xs.length : Int) == (ys.length : Int)) = false := by simp; omega
    have e1 : ¬ (xs.length : Int) = (ys.length : Int) := by omega
    have HR : Hid (decide (xs = ys) = false) := Lib.hid (by simp; rintro rfl; exact hl rfl)
    clear hl
    go_enter Try.func60, Try.ntmps60
    go_wp2_with fail
    go_ret
    exact ⟨by rw [HR.out]; rfl, Frm.refl _ _⟩

set_option maxRecDepth 100000 in
theorem equal_any (B : Nat) (a b : Option Addr) (ca cb : Nat) (xs ys : List Int) (w : World) (h1 : Rd B w a xs.length ca 1 (ints xs)) (h2 : Rd B w b ys.length cb 1 (ints ys)) :
    Calls Try.prog 59 #[.slice a xs.length ca, .slice b ys.length cb] w fun e w' => e = .returned (.bool (decide (xs = ys))) ∧ Frm [] w w' := by
  have l1 := h1.lt
  have l2 := h2.lt
  have H1 := Lib.hid h1
  have H2 := Lib.hid h2
  clear h1 h2
  by_cases hl : xs.length = ys.length
  · have HL := Lib.hid hl
    have e0 : ((xs.length : Int) == (ys.length : Int)) = true := by simp [hl]
    have e1 : (xs.length : Int) = (ys.length : Int) := by omega
    clear hl
    go_enter Try.func59, Try.ntmps59
    go_wp2_with fail
    go_loopg [13] xs.length (fun q i wr => ∃ (k : Nat), q = xs.length - k ∧ k ≤ xs.length ∧ i = .int .i64 k ∧ decide (xs = ys) = decide (xs.drop k = ys.drop k) ∧ Frm [] w wr)
    case atStart => exact ⟨0, rfl, Nat.zero_le _, rfl, by simp, Frm.refl _ _⟩
    case round =>
      obtain ⟨k, rfl, hk, rfl, hd, hF⟩ := hrel
      have HD := Lib.hid hd
      have HF := Lib.hid hF
      have i4 : (0 : Int) ≤ (k : Int) := by omega
      clear hd hF
      by_cases hlt : k < xs.length
      · have i5 : (k : Int) < (xs.length : Int) := by omega
        have i6 : (k : Int) < (ys.length : Int) := by have := HL.out; omega
        obtain ⟨x, hx⟩ : ∃ x, xs[k]? = some x := ⟨_, List.getElem?_eq_getElem hlt⟩
        obtain ⟨y, hy⟩ : ∃ y, ys[k]? = some y := ⟨_, List.getElem?_eq_getElem (by have := HL.out; omega)⟩
        have hdx := drop_cons hx
        have hdy := drop_cons hy
        obtain ⟨g, o, rfl, _, c1⟩ := H1.out.at hx
        obtain ⟨g', o', rfl, _, c2⟩ := H2.out.at hy
        have d1 := HF.out.cell c1 (by simp)
        have d2 := HF.out.cell c2 (by simp)
        have HDX := Lib.hid hdx
        have HDY := Lib.hid hdy
        clear hx hy hdx hdy c1 c2
        by_cases hxy : x = y
        · subst hxy
          go_wp2_with fail
          go_quiet (fail)
          go_wp2_with fail
          go_roundg (xs.length - (k + 1))
          case rel => exact ⟨k + 1, rfl, by omega, by go_num, by rw [HD.out, HDX.out, HDY.out]; simp, HF.out.drewN _⟩
          case measure => omega
        · have hne : (x == y) = false := by simpa using hxy
          have HR : Hid (decide (xs = ys) = false) := Lib.hid (by rw [HD.out, HDX.out, HDY.out]; simp [hxy])
          go_wp2_with fail
          go_quiet (fail)
          go_wp2_with fail
          go_ret
          exact ⟨by rw [HR.out]; rfl, HF.out.drewN _⟩
      · have i5 : ¬ (k : Int) < (xs.length : Int) := by omega
        have HR : Hid (decide (xs = ys) = true) := Lib.hid (by rw [HD.out, List.drop_eq_nil_of_le (by omega), List.drop_eq_nil_of_le (by have := HL.out; omega)]; simp)
        go_wp2_with fail
        go_ret
        exact ⟨by rw [HR.out]; rfl, HF.out⟩
  · have e0 : ((xs.length : Int) == (ys.length : Int)) = false := by simp; omega
    have e1 : ¬ (xs.length : Int) = (ys.length : Int) := by omega
    have HR : Hid (decide (xs = ys) = false) := Lib.hid (by simp; rintro rfl; exact hl rfl)
    clear hl
    go_enter Try.func59, Try.ntmps59
    go_wp2_with fail
    go_ret
    exact ⟨by rw [HR.out]; rfl, Frm.refl _ _⟩

def hasB (xs : List Int) (x : Int) : Bool := xs.any fun y => decide (y = x)
set_option maxRecDepth 100000 in
theorem has_any (B : Nat) (a : Option Addr) (cap : Nat) (xs : List Int) (x : Int) (w : World) (h : Rd B w a xs.length cap 1 (ints xs)) :
    Calls Try.prog 71 #[.slice a xs.length cap, .int .i64 x] w fun e w' => e = .returned (.bool (hasB xs x)) ∧ Frm [] w w' := by
  have l1 := h.lt
  obtain ⟨R, hR⟩ : ∃ R, hasB xs x = R := ⟨_, rfl⟩
  rw [hR]
  have H := Lib.hid h
  clear h
  go_enter Try.func71, Try.ntmps71
  go_wp2_with fail
  go_loopg [5] xs.length (fun q i wr => ∃ (k : Nat), q = xs.length - k ∧ k ≤ xs.length ∧ i = .int .i64 k ∧ hasB (xs.drop k) x = R ∧ Frm [] w wr)
  case atStart => exact ⟨0, rfl, Nat.zero_le _, rfl, hR, Frm.refl _ _⟩
  case round =>
    clear hR
    obtain ⟨k, rfl, hk, rfl, hd, hF⟩ := hrel
    have HF := Lib.hid hF
    have i4 : (0 : Int) ≤ (k : Int) := by omega
    clear hF
    by_cases hlt : k < xs.length
    · have i5 : (k : Int) < (xs.length : Int) := by omega
      obtain ⟨y, hy⟩ : ∃ y, xs[k]? = some y := ⟨_, List.getElem?_eq_getElem hlt⟩
      rw [drop_cons hy, hasB, List.any_cons] at hd
      obtain ⟨g, o, rfl, _, c1⟩ := H.out.at hy
      have d1 := HF.out.cell c1 (by simp)
      clear c1 hy
      by_cases hxy : y = x
      · subst hxy
        have HD : Hid (R = true) := Lib.hid (by rw [← hd]; simp)
        clear hd
        go_wp2_with fail
        go_ret
        exact ⟨by rw [HD.out]; rfl, HF.out⟩
      · have hne : (y == x) = false := by simpa using hxy
        rw [decide_eq_false hxy, Bool.false_or] at hd
        have HD := Lib.hid hd
        clear hd hxy
        go_wp2_with fail
        go_roundg (xs.length - (k + 1))
        case rel => exact ⟨k + 1, rfl, by omega, by go_num, HD.out, HF.out⟩
        case measure => omega
    · have i5 : ¬ (k : Int) < (xs.length : Int) := by omega
      have HR : Hid (R = false) := Lib.hid (by rw [← hd, List.drop_eq_nil_of_le (by omega)]; rfl)
      clear hd
      go_wp2_with fail
      go_ret
      exact ⟨by rw [HR.out]; rfl, HF.out⟩

set_option maxRecDepth 100000 in
theorem index_any (B : Nat) (a : Option Addr) (cap : Nat) (xs : List Int) (x : Int) (w : World) (h : Rd B w a xs.length cap 1 (ints xs)) :
    Calls Try.prog 61 #[.slice a xs.length cap, .int .i64 x] w fun e w' => (∃ v : Int, e = .returned (.int .i64 v) ∧ IdxP (hasB xs x) v) ∧ Frm [] w w' := by
  have l1 := h.lt
  obtain ⟨R, hR⟩ : ∃ R, hasB xs x = R := ⟨_, rfl⟩
  rw [hR]
  have H := Lib.hid h
  clear h
  go_enter Try.func61, Try.ntmps61
  go_wp2_with fail
  go_loopg [8] xs.length (fun q i wr => ∃ (k : Nat), q = xs.length - k ∧ k ≤ xs.length ∧ i = .int .i64 k ∧ hasB (xs.drop k) x = R ∧ Frm [] w wr)
  case atStart => exact ⟨0, rfl, Nat.zero_le _, rfl, hR, Frm.refl _ _⟩
  case round =>
    clear hR
    obtain ⟨k, rfl, hk, rfl, hd, hF⟩ := hrel
    have HF := Lib.hid hF
    have i4 : (0 : Int) ≤ (k : Int) := by omega
    clear hF
    by_cases hlt : k < xs.length
    · have i5 : (k : Int) < (xs.length : Int) := by omega
      obtain ⟨y, hy⟩ : ∃ y, xs[k]? = some y := ⟨_, List.getElem?_eq_getElem hlt⟩
      rw [drop_cons hy, hasB, List.any_cons] at hd
      obtain ⟨g, o, rfl, _, c1⟩ := H.out.at hy
      have d1 := HF.out.cell c1 (by simp)
      clear c1 hy
      by_cases hxy : y = x
      · subst hxy
        have HD : Hid (R = true) := Lib.hid (by rw [← hd]; simp)
        clear hd
        go_wp2_with fail
        go_ret
        exact ⟨⟨_, rfl, by rw [HD.out]; exact ⟨(fun _ => by omega), (fun h9 => by cases h9)⟩⟩, HF.out⟩
      · have hne : (x == y) = false := by simpa using Ne.symm hxy
        rw [decide_eq_false hxy, Bool.false_or] at hd
        have HD := Lib.hid hd
        clear hd hxy
        go_wp2_with fail
        go_roundg (xs.length - (k + 1))
        case rel => exact ⟨k + 1, rfl, by omega, by go_num, HD.out, HF.out⟩
        case measure => omega
    · have i5 : ¬ (k : Int) < (xs.length : Int) := by omega
      have HR : Hid (R = false) := Lib.hid (by rw [← hd, List.drop_eq_nil_of_le (by omega)]; rfl)
      clear hd
      go_wp2_with fail
      go_ret
      exact ⟨⟨-1, rfl, by rw [HR.out]; exact ⟨(fun h9 => by cases h9), fun _ => rfl⟩⟩, HF.out⟩

theorem contains_any (B : Nat) (a : Option Addr) (cap : Nat) (xs : List Int) (x : Int) (w : World) (h : Rd B w a xs.length cap 1 (ints xs)) :
    Calls Try.prog 44 #[.slice a xs.length cap, .int .i64 x] w fun e w' => e = .returned (.bool (hasB xs x)) ∧ Frm [] w w' := by
  have hi := index_any B a cap xs x w h
  have HI := Lib.hid hi
  clear hi h
  go_enter Try.func44, Try.ntmps44
  go_wp2_with fail
  refine HI.out.mono ?_
  rintro e1 w1 ⟨⟨v, rfl, hv⟩, hf1⟩
  obtain ⟨h1, h2⟩ := hv
  cases hr : hasB xs x with
  | true =>
    have h3 := h1 hr
    have HR := Lib.hid hr
    clear h1 h2 hr HI
    go_wp2_with fail
    go_ret
    exact ⟨ret_bool (by rw [HR.out]), hf1⟩
  | false =>
    have h3 := h2 hr
    subst h3
    have HR := Lib.hid hr
    clear h1 h2 hr HI
    go_wp2_with fail
    go_ret
    exact ⟨ret_bool (by rw [HR.out]), hf1⟩


set_option maxRecDepth 100000 in
theorem rising_any (B : Nat) (a : Option Addr) (cap : Nat) (xs : List Int) (w : World) (h : Rd B w a xs.length cap 1 (ints xs)) :
    Calls Try.prog 72 #[.slice a xs.length cap] w fun e w' => e = .returned (.bool (ascB xs)) ∧ Frm [] w w' := by
  have l1 := h.lt
  obtain ⟨R, hR⟩ : ∃ R, ascB xs = R := ⟨_, rfl⟩
  rw [hR]
  have H := Lib.hid h
  clear h
  go_enter Try.func72, Try.ntmps72
  go_wp2_with fail
  go_loopg [3] xs.length (fun q i wr => ∃ (k : Nat), q = xs.length - k ∧ i = .int .i64 ((k + 1 : Nat) : Int) ∧ k ≤ xs.length ∧ ascB (xs.drop k) = R ∧ Frm [] w wr)
  case atStart => exact ⟨0, rfl, rfl, Nat.zero_le _, hR, Frm.refl _ _⟩
  case round =>
    clear hR
    obtain ⟨k, rfl, rfl, hk, hd, hF⟩ := hrel
    have HF := Lib.hid hF
    have i4 : (0 : Int) ≤ ((k + 1 : Nat) : Int) := by omega
    have i3 : IntKind.i64.wrap (((k + 1 : Nat) : Int) - 1) = (k : Int) := by rw [IntWalk.i64_in _ (by omega)]; omega
    have i2 : (0 : Int) ≤ (k : Int) := by omega
    clear hF
    by_cases hlt : k + 1 < xs.length
    · have i5 : ((k + 1 : Nat) : Int) < (xs.length : Int) := by omega
      have i6 : (k : Int) < (xs.length : Int) := by omega
      obtain ⟨x, hx⟩ : ∃ x, xs[k]? = some x := ⟨_, List.getElem?_eq_getElem (by omega)⟩
      obtain ⟨y, hy⟩ : ∃ y, xs[k + 1]? = some y := ⟨_, List.getElem?_eq_getElem hlt⟩
      rw [drop_cons hx, drop_cons hy, ascB] at hd
      obtain ⟨g, o, rfl, _, c1⟩ := H.out.at hx
      obtain ⟨g', o', e9, _, c2⟩ := H.out.at hy
      cases e9
      have d1 := HF.out.cell c1 (by simp)
      have d2 := HF.out.cell c2 (by simp)
      clear c1 c2
      by_cases hxy : x < y
      · have hxy2 : ¬ y ≤ x := by omega
        rw [decide_eq_true hxy, Bool.true_and, ← drop_cons hy] at hd
        have HD := Lib.hid hd
        clear hd hx hy
        generalize hk1 : k + 1 = k1 at *
        go_wp2_with fail
        go_quiet (fail)
        go_wp2_with fail
        go_roundg (xs.length - k1)
        case rel => exact ⟨k1, rfl, by first | rfl | go_num, by omega, HD.out, HF.out.drewN _⟩
        case measure => omega
      · have hxy2 : y ≤ x := by omega
        rw [decide_eq_false hxy, Bool.false_and] at hd
        have HD := Lib.hid hd
        clear hd hx hy hxy
        generalize hk1 : k + 1 = k1 at *
        go_wp2_with fail
        go_quiet (fail)
        go_wp2_with fail
        go_ret
        exact ⟨by rw [← HD.out]; rfl, HF.out.drewN _⟩
    · have i5 : ¬ ((k + 1 : Nat) : Int) < (xs.length : Int) := by omega
      have HR : Hid (R = true) := Lib.hid (by
        rw [← hd]
        have hl : (xs.drop k).length ≤ 1 := by rw [List.length_drop]; omega
        match xs.drop k, hl with
        | [], _ => rfl
        | [_], _ => rfl)
      clear hd
      go_wp2_with fail
      go_ret
      exact ⟨by rw [HR.out]; rfl, HF.out⟩

end Go.Proofs.Ytfndgiinniibfaa.Ind
