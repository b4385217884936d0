/- Contract of Ints of the reference. -/
import Derived.Test.YtknfdpkfomlckaaGD
namespace Go.Proofs.Ytknfdpkfomlckaa
open Go.RowKit

set_option maxRecDepth 100000 in
theorem ints_same (B : Nat) (a b : Option Addr) (ca cb : Nat) (xs ys : List Int) (w : World) (h1 : Rd B w a xs.length ca 1 (ints xs)) (h2 : Rd B w b ys.length cb 1 (ints ys)) :
    Calls Try.prog 15 #[.slice a xs.length ca, .slice b ys.length cb] w fun e w' => e = .returned (.bool (decide (xs = ys))) ∧ Frm [] w w' := by
  have l1 := h1.lt
  have l2 := h2.lt
  have H1 := Lib.hid h1
  have H2 := Lib.hid h2
  clear h1 h2
  by_cases hl : xs.length = ys.length
  · have HL := Lib.hid hl
    have e0 : ((xs.length : Int) == (ys.length : Int)) = true := by simp [hl]
    have e1 : (xs.length : Int) = (ys.length : Int) := by omega
    clear hl
    go_enter Try.func15, Try.ntmps15
    go_wp2_with fail
    go_loopg [5] xs.length (fun q i wr => ∃ (k : Nat), q = xs.length - k ∧ k ≤ xs.length ∧ i = .int .i64 k ∧ decide (xs = ys) = decide (xs.drop k = ys.drop k) ∧ Frm [] w wr)
    case atStart => exact ⟨0, rfl, Nat.zero_le _, rfl, by simp, Frm.refl _ _⟩
    case round =>
      obtain ⟨k, rfl, hk, rfl, hd, hF⟩ := hrel
      have HD := Lib.hid hd
      have HF := Lib.hid hF
      have i4 : (0 : Int) ≤ (k : Int) := by omega
      clear hd hF
      by_cases hlt : k < xs.length
      · have i5 : (k : Int) < (xs.length : Int) := by omega
        have i6 : (k : Int) < (ys.length : Int) := by have := HL.out; omega
        obtain ⟨x, hx⟩ : ∃ x, xs[k]? = some x := ⟨_, List.getElem?_eq_getElem hlt⟩
        obtain ⟨y, hy⟩ : ∃ y, ys[k]? = some y := ⟨_, List.getElem?_eq_getElem (by have := HL.out; omega)⟩
        have hdx := drop_cons hx
        have hdy := drop_cons hy
        obtain ⟨g, o, rfl, _, c1⟩ := H1.out.at hx
        obtain ⟨g', o', rfl, _, c2⟩ := H2.out.at hy
        have d1 := HF.out.cell c1 (by simp)
        have d2 := HF.out.cell c2 (by simp)
        have HDX := Lib.hid hdx
        have HDY := Lib.hid hdy
        clear hx hy hdx hdy c1 c2
        by_cases hxy : x = y
        · subst hxy
          go_wp2_with fail
          go_quiet (fail)
          go_wp2_with fail
          go_roundg (xs.length - (k + 1))
          case rel => exact ⟨k + 1, rfl, by omega, by go_num, by rw [HD.out, HDX.out, HDY.out]; simp, HF.out.drewN _⟩
          case measure => omega
        · have hne : (x == y) = false := by simpa using hxy
          have HR : Hid (decide (xs = ys) = false) := Lib.hid (by rw [HD.out, HDX.out, HDY.out]; simp [hxy])
          go_wp2_with fail
          go_quiet (fail)
          go_wp2_with fail
          go_ret
          exact ⟨by rw [HR.out]; rfl, HF.out.drewN _⟩
      · have i5 : ¬ (k : Int) < (xs.length : Int) := by omega
        have HR : Hid (decide (xs = ys) = true) := Lib.hid (by rw [HD.out, List.drop_eq_nil_of_le (by omega), List.drop_eq_nil_of_le (by have := HL.out; omega)]; simp)
        go_wp2_with fail
        go_ret
        exact ⟨by rw [HR.out]; rfl, HF.out⟩
  · have e0 : ((xs.length : Int) == (ys.length : Int)) = false := by simp; omega
    have e1 : ¬ (xs.length : Int) = (ys.length : Int) := by omega
    have HR : Hid (decide (xs = ys) = false) := Lib.hid (by simp; rintro rfl; exact hl rfl)
    clear hl
    go_enter Try.func15, Try.ntmps15
    go_wp2_with fail
    go_ret
    exact ⟨by rw [HR.out]; rfl, Frm.refl _ _⟩

end Go.Proofs.Ytknfdpkfomlckaa
