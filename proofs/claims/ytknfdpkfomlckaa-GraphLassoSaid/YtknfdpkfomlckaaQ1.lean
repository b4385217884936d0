/- Contract of Huge, its answer told as a function of the system. -/
import Derived.Test.YtknfdpkfomlckaaA6
namespace Go.Proofs.Ytknfdpkfomlckaa
open Go.RowKit

def hugeB (l : Lts) : Bool := decide (12 < l.length) || decide (60 < sumLen l)
theorem hugeB_false {l : Lts} (h : hugeB l = false) : l.length ≤ 12 ∧ sumLen l ≤ 60 := by
  simp only [hugeB, Bool.or_eq_false_iff, decide_eq_false_iff_not] at h
  omega
theorem sumLen_take (l : Lts) (k : Nat) : sumLen (l.take k) ≤ sumLen l := by
  have h : sumLen l = sumLen (l.take k) + sumLen (l.drop k) := by
    simp only [sumLen]
    rw [← List.sum_append, ← List.map_append, List.take_append_drop]
  omega

set_option maxRecDepth 100000 in
set_option maxHeartbeats 1000000 in
theorem huge_det (B : Nat) (a : Option Addr) (cap : Nat) (l : Lts) (w : World) (h : LAt B w a cap l) :
    Calls Try.prog 18 #[.agg #[.slice a l.length cap]] w fun e w' => e = .returned (.bool (hugeB l)) ∧ Frm [] w w' := by
  have f0 : Frm [] w (w.alloc (.cells #[.slice a l.length cap] 25)) := (Frm.refl [] w).alloc _
  have hbox := (box1 w (.slice a l.length cap) 25).cell (i := 0) rfl
  have H0 := Lib.hid (h.nil f0 rfl)
  have HB := Lib.hid hbox
  have hl := h.lt
  clear h
  go_enter Try.func18, Try.ntmps18
  go_wp2_with fail
  clear hbox
  go_loopg [3, 4] l.length (fun q v i wr => ∃ (k n : Nat), q = l.length - k ∧ k ≤ l.length ∧ i = .int .i64 k ∧ v = .int .i64 n ∧ n = sumLen (l.take k) ∧ n ≤ 60 + 140737488355328 ∧ wr = w.alloc (.cells #[.slice a l.length cap] 25))
  case atStart => exact ⟨0, 0, rfl, Nat.zero_le _, rfl, rfl, by simp [sumLen], by omega, rfl⟩
  case round =>
    obtain ⟨k, n, rfl, hk, rfl, rfl, hn, hn2, rfl⟩ := hrel
    have HN := Lib.hid hn
    have hb := HB.out
    have i4 : (0 : Int) ≤ (k : Int) := by omega
    have i7 : (n : Int) ≤ 60 + 140737488355328 := by omega
    clear hn
    by_cases hlt : k < l.length
    · have i5 : (k : Int) < (l.length : Int) := by omega
      by_cases h60 : n ≤ 60
      · have i6 : (n : Int) ≤ 60 := by omega
        obtain ⟨row, hrow⟩ : ∃ row, l[k]? = some row := ⟨_, List.getElem?_eq_getElem hlt⟩
        obtain ⟨b, o, ra, rc, rfl, hb1, hc, hrr⟩ := H0.out.cell k row hrow
        have hsn := sumLen_snoc l k row hrow
        have HSN := Lib.hid hsn
        have hrl := hrr.lt
        clear hsn hrow hrr
        go_wp2_with fail
        go_roundg (l.length - (k + 1))
        case rel => exact ⟨k + 1, n + row.length, rfl, by omega, by go_num, by go_num, by rw [HSN.out, HN.out], by omega, rfl⟩
        case measure => omega
      · have i6 : ¬ (n : Int) ≤ 60 := by omega
        have i8 : (60 : Int) < (n : Int) := by omega
        have HU : Hid (hugeB l = true) := Lib.hid (by
          have h1 := sumLen_take l k
          rw [← HN.out] at h1
          simp only [hugeB, Bool.or_eq_true, decide_eq_true_eq]
          omega)
        go_wp2_with fail
        all_goals
          go_ret
          exact ⟨by rw [HU.out]; rfl, f0⟩
    · have i5 : ¬ (k : Int) < (l.length : Int) := by omega
      have hkl : k = l.length := by omega
      have HT : Hid (n = sumLen l) := Lib.hid (by rw [HN.out, hkl, List.take_length])
      clear hkl
      by_cases h12 : 12 < l.length
      · have i6 : (12 : Int) < (l.length : Int) := by omega
        have HU : Hid (hugeB l = true) := Lib.hid (by
          simp only [hugeB, Bool.or_eq_true, decide_eq_true_eq]
          omega)
        go_wp2_with fail
        all_goals go_ret
        exact ⟨by rw [HU.out]; rfl, f0⟩
      · have i6 : ¬ (12 : Int) < (l.length : Int) := by omega
        by_cases h60 : n ≤ 60
        · have i8 : ¬ (60 : Int) < (n : Int) := by omega
          go_wp2_with fail
          go_ret
          have HU : hugeB l = false := by
            have h1 := HT.out
            simp only [hugeB, Bool.or_eq_false_iff, decide_eq_false_iff_not]
            omega
          exact ⟨by rw [HU]; rfl, f0⟩
        · have i8 : (60 : Int) < (n : Int) := by omega
          have HU : Hid (hugeB l = true) := Lib.hid (by
            have h1 := HT.out
            simp only [hugeB, Bool.or_eq_true, decide_eq_true_eq]
            omega)
          go_wp2_with fail
          go_ret
          exact ⟨by rw [HU.out]; rfl, f0⟩

theorem huge_as (B : Nat) (a : Option Addr) (cap : Nat) (l : Lts) (b : Bool) (hb : hugeB l = b) (w : World) (h : LAt B w a cap l) :
    Calls Try.prog 18 #[.agg #[.slice a l.length cap]] w fun e w' => e = .returned (.bool b) ∧ Frm [] w w' := by
  have := huge_det B a cap l w h
  rw [hb] at this
  exact this

end Go.Proofs.Ytknfdpkfomlckaa
