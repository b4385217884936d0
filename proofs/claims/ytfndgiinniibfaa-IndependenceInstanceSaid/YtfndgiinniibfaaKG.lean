/- Contracts of cmp.Compare, slices.Compare, cmp.Or, and of the comparisons of Instance. -/
import Derived.Test.YtfndgiinniibfaaKF
namespace Go.Proofs.Ytfndgiinniibfaa.Ind
open Go.Shelf
open Go.RowKit

def cmpI (x y : Int) : Int := if x < y then -1 else if y < x then 1 else 0
theorem nan_any (x : Int) (w : World) : Calls Try.prog 70 #[.int .i64 x] w fun e w' => e = .returned (.bool false) ∧ w = w' := by
  have hx : (x != x) = false := by simp
  go_enter Try.func70, Try.ntmps70
  go_wp2
  go_ret
  exact ⟨rfl, rfl⟩
theorem cmpI_any (x y : Int) (w : World) : Calls Try.prog 53 #[.int .i64 x, .int .i64 y] w fun e w' => e = .returned (.int .i64 (cmpI x y)) ∧ w = w' := by
  rcases (show x < y ∨ y < x ∨ x = y by omega) with h | h | h
  · have H : Hid (cmpI x y = -1) := if_pos h
    go_enter Try.func53, Try.ntmps53
    go_wp2_with (go_at_call 70; refine (nan_any _ _).mono ?_; rintro e w1 ⟨rfl, rfl⟩)
    go_ret
    exact ⟨by rw [H.out]; rfl, rfl⟩
  · have h' : ¬ x < y := by omega
    have H : Hid (cmpI x y = 1) := (if_neg h').trans (if_pos h)
    go_enter Try.func53, Try.ntmps53
    go_wp2_with (go_at_call 70; refine (nan_any _ _).mono ?_; rintro e w1 ⟨rfl, rfl⟩)
    go_ret
    exact ⟨by rw [H.out]; rfl, rfl⟩
  · subst h
    have h' : ¬ x < x := by omega
    have H : Hid (cmpI x x = 0) := (if_neg h').trans (if_neg h')
    go_enter Try.func53, Try.ntmps53
    go_wp2_with (go_at_call 70; refine (nan_any _ _).mono ?_; rintro e w1 ⟨rfl, rfl⟩)
    go_ret
    exact ⟨by rw [H.out]; rfl, rfl⟩

/-- slices.Compare. -/
def cmpL : List Int → List Int → Int
  | [], [] => 0
  | [], _ :: _ => -1
  | _ :: _, [] => 1
  | a :: r, b :: s => if cmpI a b = 0 then cmpL r s else cmpI a b
set_option maxRecDepth 100000 in
theorem cmpL_any (B : Nat) (a b : Option Addr) (ca cb : Nat) (xs ys : List Int) (w : World) (h1 : Rd B w a xs.length ca 1 (ints xs)) (h2 : Rd B w b ys.length cb 1 (ints ys)) :
    Calls Try.prog 68 #[.slice a xs.length ca, .slice b ys.length cb] w fun e w' => e = .returned (.int .i64 (cmpL xs ys)) ∧ w = w' := by
  have l1 := h1.lt
  have l2 := h2.lt
  obtain ⟨R, hR⟩ : ∃ R, cmpL xs ys = R := ⟨_, rfl⟩
  rw [hR]
  have HR := Lib.hid hR
  have H1 := Lib.hid h1
  have H2 := Lib.hid h2
  clear h1 h2 hR
  go_enter Try.func68, Try.ntmps68
  go_wp2_with fail
  go_loopg [11] xs.length (fun q i wr => ∃ (k : Nat), q = xs.length - k ∧ k ≤ xs.length ∧ k ≤ ys.length ∧ i = .int .i64 k ∧ cmpL (xs.drop k) (ys.drop k) = R ∧ w = wr)
  case atStart => exact ⟨0, rfl, Nat.zero_le _, Nat.zero_le _, rfl, HR.out, rfl⟩
  case round =>
    clear HR
    obtain ⟨k, rfl, hk, hk2, rfl, hd, rfl⟩ := hrel
    have i4 : (0 : Int) ≤ (k : Int) := by omega
    by_cases hlt : k < xs.length
    · have i5 : (k : Int) < (xs.length : Int) := by omega
      obtain ⟨x, hx⟩ : ∃ x, xs[k]? = some x := ⟨_, List.getElem?_eq_getElem hlt⟩
      obtain ⟨g, o, rfl, _, d1⟩ := H1.out.at hx
      rw [drop_cons hx] at hd
      by_cases hlt2 : k < ys.length
      · have i6 : (k : Int) < (ys.length : Int) := by omega
        obtain ⟨y, hy⟩ : ∃ y, ys[k]? = some y := ⟨_, List.getElem?_eq_getElem hlt2⟩
        obtain ⟨g', o', rfl, _, d2⟩ := H2.out.at hy
        rw [drop_cons hy, cmpL] at hd
        by_cases hc : cmpI x y = 0
        · rw [if_pos hc] at hd
          have HD := Lib.hid hd
          have hcall := cmpI_any x y w
          rw [hc] at hcall
          clear hx hy hd hc
          go_wp2_with (go_at_call 53; refine hcall.mono ?_; rintro e1 w1 ⟨rfl, rfl⟩)
          go_roundg (xs.length - (k + 1))
          case rel => exact ⟨k + 1, rfl, by omega, by omega, by go_num, HD.out, rfl⟩
          case measure => omega
        · rw [if_neg hc] at hd
          have HD := Lib.hid hd
          have hb : (cmpI x y != 0) = true := by simpa using hc
          have hcall := cmpI_any x y w
          generalize cmpI x y = z at *
          clear hx hy hd
          go_wp2_with (go_at_call 53; refine hcall.mono ?_; rintro e1 w1 ⟨rfl, rfl⟩)
          go_ret
          exact ⟨by rw [← HD.out]; rfl, rfl⟩
      · have i6 : (ys.length : Int) ≤ (k : Int) := by omega
        have e9 : ys.drop k = [] := List.drop_eq_nil_of_le (by omega)
        rw [e9, cmpL] at hd
        subst hd
        clear hx
        go_wp2_with fail
        go_ret
        exact ⟨rfl, rfl⟩
    · have i5 : ¬ (k : Int) < (xs.length : Int) := by omega
      have e9 : xs.drop k = [] := List.drop_eq_nil_of_le (by omega)
      rw [e9] at hd
      by_cases hlt2 : k < ys.length
      · have i6 : (xs.length : Int) < (ys.length : Int) := by omega
        obtain ⟨y, hy⟩ : ∃ y, ys[k]? = some y := ⟨_, List.getElem?_eq_getElem hlt2⟩
        rw [drop_cons hy, cmpL] at hd
        subst hd
        clear hy
        go_wp2_with fail
        go_ret
        exact ⟨rfl, rfl⟩
      · have i6 : ¬ (xs.length : Int) < (ys.length : Int) := by omega
        have e9 : ys.drop k = [] := List.drop_eq_nil_of_le (by omega)
        rw [e9, cmpL] at hd
        subst hd
        go_wp2_with fail
        go_ret
        exact ⟨rfl, rfl⟩

/-- cmp.Or. -/
def orL : List Int → Int
  | [] => 0
  | a :: r => if a = 0 then orL r else a
set_option maxRecDepth 100000 in
theorem orL_any (B : Nat) (a : Option Addr) (ca : Nat) (xs : List Int) (w : World) (h1 : Rd B w a xs.length ca 1 (ints xs)) :
    Calls Try.prog 52 #[.slice a xs.length ca] w fun e w' => e = .returned (.int .i64 (orL xs)) ∧ w = w' := by
  have l1 := h1.lt
  obtain ⟨R, hR⟩ : ∃ R, orL xs = R := ⟨_, rfl⟩
  rw [hR]
  have HR := Lib.hid hR
  have H1 := Lib.hid h1
  clear h1 hR
  go_enter Try.func52, Try.ntmps52
  go_wp2_with fail
  go_loopg [8] xs.length (fun q i wr => ∃ (k : Nat), q = xs.length - k ∧ k ≤ xs.length ∧ i = .int .i64 k ∧ orL (xs.drop k) = R ∧ w = wr)
  case atStart => exact ⟨0, rfl, Nat.zero_le _, rfl, HR.out, rfl⟩
  case round =>
    clear HR
    obtain ⟨k, rfl, hk, rfl, hd, rfl⟩ := hrel
    have i4 : (0 : Int) ≤ (k : Int) := by omega
    by_cases hlt : k < xs.length
    · have i5 : (k : Int) < (xs.length : Int) := by omega
      obtain ⟨x, hx⟩ : ∃ x, xs[k]? = some x := ⟨_, List.getElem?_eq_getElem hlt⟩
      obtain ⟨g, o, rfl, _, d1⟩ := H1.out.at hx
      rw [drop_cons hx, orL] at hd
      by_cases hc : x = 0
      · rw [if_pos hc] at hd
        have HD := Lib.hid hd
        subst hc
        clear hx hd
        go_wp2_with fail
        go_roundg (xs.length - (k + 1))
        case rel => exact ⟨k + 1, rfl, by omega, by go_num, HD.out, rfl⟩
        case measure => omega
      · rw [if_neg hc] at hd
        have hb : (x != 0) = true := by simpa using hc
        subst hd
        clear hx
        go_wp2_with fail
        go_ret
        exact ⟨rfl, rfl⟩
    · have i5 : ¬ (k : Int) < (xs.length : Int) := by omega
      have e9 : xs.drop k = [] := List.drop_eq_nil_of_le (by omega)
      rw [e9, orL] at hd
      subst hd
      go_wp2_with fail
      go_ret
      exact ⟨rfl, rfl⟩

end Go.Proofs.Ytfndgiinniibfaa.Ind
