/- Contract of Huge. (Cut from the graph's A6.) -/
import Derived.Test.YtdknbgejhhoaiaaGreatQ30
namespace Go.Proofs.YtdknbgejhhoaiaaGreat
open Go.RowKit

def sumLen (l : Lts) : Nat := (l.map List.length).sum
theorem sumLen_cons (r : List Arc) (l : Lts) : sumLen (r :: l) = r.length + sumLen l := by simp [sumLen]
theorem sumLen_snoc (l : Lts) (k : Nat) (row : List Arc) (h : l[k]? = some row) : sumLen (l.take (k + 1)) = sumLen (l.take k) + row.length := by
  obtain ⟨hk, rfl⟩ := List.getElem?_eq_some_iff.1 h
  rw [List.take_succ_eq_append_getElem hk]
  simp only [sumLen, List.map_append, List.sum_append, List.map_cons, List.map_nil, List.sum_cons, List.sum_nil]
  omega
theorem mem_sumLen {l : Lts} {row : List Arc} (h : row ∈ l) : row.length ≤ sumLen l := by
  induction l with
  | nil => cases h
  | cons a r ih =>
    rw [sumLen_cons]
    rcases List.mem_cons.1 h with rfl | h
    · omega
    · have := ih h; omega
def SmallIf (l : Lts) (b : Bool) : Prop := b = false → l.length ≤ 12 ∧ sumLen l ≤ 60
def HugeEnd (l : Lts) (e : Ending) : Prop := ∃ b : Bool, e = .returned (.bool b) ∧ SmallIf l b

set_option maxRecDepth 100000 in
set_option maxHeartbeats 1000000 in
theorem huge_any (B : Nat) (a : Option Addr) (cap : Nat) (l : Lts) (w : World) (h : LAt B w a cap l) :
    Calls Tryz.prog 12 #[.agg #[.slice a l.length cap]] w fun e w' => HugeEnd l e ∧ Frm [] w w' := by
  have f0 : Frm [] w (w.alloc (.cells #[.slice a l.length cap] 25)) := (Frm.refl [] w).alloc _
  have hbox := (box1 w (.slice a l.length cap) 25).cell (i := 0) rfl
  have H0 := Lib.hid (h.nil f0 rfl)
  have HB := Lib.hid hbox
  have hl := h.lt
  clear h
  go_enter Tryz.func12, Tryz.ntmps12
  go_wp2_with fail
  clear hbox
  go_loopg [3, 4] l.length (fun q v i wr => ∃ (k n : Nat), q = l.length - k ∧ k ≤ l.length ∧ i = .int .i64 k ∧ v = .int .i64 n ∧ n = sumLen (l.take k) ∧ n ≤ 60 + 140737488355328 ∧ wr = w.alloc (.cells #[.slice a l.length cap] 25))
  case atStart => exact ⟨0, 0, rfl, Nat.zero_le _, rfl, rfl, by simp [sumLen], by omega, rfl⟩
  case round =>
    obtain ⟨k, n, rfl, hk, rfl, rfl, hn, hn2, rfl⟩ := hrel
    have HN := Lib.hid hn
    have hb := HB.out
    have i4 : (0 : Int) ≤ (k : Int) := by omega
    have i7 : (n : Int) ≤ 60 + 140737488355328 := by omega
    clear hn
    by_cases hlt : k < l.length
    · have i5 : (k : Int) < (l.length : Int) := by omega
      by_cases h60 : n ≤ 60
      · have i6 : (n : Int) ≤ 60 := by omega
        obtain ⟨row, hrow⟩ : ∃ row, l[k]? = some row := ⟨_, List.getElem?_eq_getElem hlt⟩
        obtain ⟨b, o, ra, rc, rfl, hb1, hc, hrr⟩ := H0.out.cell k row hrow
        have hsn := sumLen_snoc l k row hrow
        have HSN := Lib.hid hsn
        have hrl := hrr.lt
        clear hsn hrow hrr
        go_wp2_with fail
        go_roundg (l.length - (k + 1))
        case rel => exact ⟨k + 1, n + row.length, rfl, by omega, by go_num, by go_num, by rw [HSN.out, HN.out], by omega, rfl⟩
        case measure => omega
      · have i6 : ¬ (n : Int) ≤ 60 := by omega
        have i8 : (60 : Int) < (n : Int) := by omega
        go_wp2_with fail
        all_goals
          go_ret
          exact ⟨⟨_, rfl, fun h9 => by simp at h9⟩, f0⟩
    · have i5 : ¬ (k : Int) < (l.length : Int) := by omega
      have hkl : k = l.length := by omega
      have HT : Hid (n = sumLen l) := Lib.hid (by rw [HN.out, hkl, List.take_length])
      clear hkl
      by_cases h12 : 12 < l.length
      · have i6 : (12 : Int) < (l.length : Int) := by omega
        go_wp2_with fail
        all_goals go_ret
        exact ⟨⟨_, rfl, fun h9 => by simp at h9⟩, f0⟩
      · have i6 : ¬ (12 : Int) < (l.length : Int) := by omega
        by_cases h60 : n ≤ 60
        · have i8 : ¬ (60 : Int) < (n : Int) := by omega
          go_wp2_with fail
          go_ret
          exact ⟨⟨_, rfl, fun _ => ⟨by omega, by rw [← HT.out]; exact h60⟩⟩, f0⟩
        · have i8 : (60 : Int) < (n : Int) := by omega
          go_wp2_with fail
          go_ret
          exact ⟨⟨_, rfl, fun h9 => by simp at h9⟩, f0⟩

end Go.Proofs.YtdknbgejhhoaiaaGreat
