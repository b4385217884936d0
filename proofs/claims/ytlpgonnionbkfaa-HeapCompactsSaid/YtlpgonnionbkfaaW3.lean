/- Contracts: refers and what it calls. -/
import Derived.Test.YtlpgonnionbkfaaW2
namespace Go.Proofs.Ytlpgonnionbkfaa
open Go.RowKit

def badRef (lim r : Int) : Bool := decide (r < 0) || decide (lim ≤ r)
def refersB (lim : Int) (xs : List Int) : Bool := decide (xs.length ≤ 4096) && !xs.any (badRef lim)

theorem lit_any (r lim : Int) (a : Addr) (w : World) (h : w.cell? a = some (.int .i64 lim)) :
    Calls Try.prog 45 #[.int .i64 r, .pointer (some a)] w fun e w' => e = .returned (.bool (badRef lim r)) ∧ w = w' := by
  by_cases h0 : r < 0
  · go_enter Try.func45, Try.ntmps45
    go_wp2
    go_ret
    exact ⟨by simp [badRef, h0], rfl⟩
  · have h1 : 0 ≤ r := by omega
    go_enter Try.func45, Try.ntmps45
    go_wp2
    go_ret
    exact ⟨by simp [badRef, Int.not_lt.2 h1], rfl⟩

set_option maxHeartbeats 400000 in
theorem indexFunc_any (v : Value) (xs : List Int) (lim : Int) (ad : Addr) (w : World) (h : IntsAt w v xs) (hl : w.cell? ad = some (.int .i64 lim)) :
    Calls Try.prog 53 #[v, .func (.func 45) #[] #[.pointer (some ad)]] w fun e w' => (∃ n : Int, e = .returned (.int .i64 n) ∧ decide (0 ≤ n) = xs.any (badRef lim)) ∧ w = w' := by
  obtain ⟨a, cap, rfl, hlen⟩ := h.shape
  go_enter Try.func53, Try.ntmps53
  go_wp2
  go_loopg [8] xs.length (fun g i wr => ∃ k : Nat, g = xs.length - k ∧ k ≤ xs.length ∧ i = .int .i64 k ∧ w = wr ∧ (xs.take k).any (badRef lim) = false)
  case atStart => exact ⟨0, rfl, Nat.zero_le _, rfl, rfl, rfl⟩
  case round =>
    obtain ⟨k, rfl, hk, rfl, rfl, hno⟩ := hrel
    by_cases hlt : k < xs.length
    · rcases h with ⟨h0, rfl⟩ | ⟨b, o, cap', h0, h1, h2, h3, h4⟩
      · simp at hlt
      · obtain ⟨rfl, _, rfl⟩ : a = some ⟨b, o, none⟩ ∧ xs.length = xs.length ∧ cap = cap' := by simpa using h0
        have c := h4 k xs[k] (by simp)
        have htk : xs.take (k + 1) = xs.take k ++ [xs[k]] := by simp
        have H1 := Lib.hid hno
        have H2 := Lib.hid htk
        clear h4 hno htk h0
        generalize hx : xs[k] = x at *
        have H3 := Lib.hid hx
        clear hx
        by_cases hb : badRef lim x = true
        · have hb' := Lib.hid hb
          go_wp2_with fail
          refine (lit_any _ _ _ _ hl).mono ?_
          rintro e w1 ⟨rfl, rfl⟩
          rw [hb'.out]
          go_wp2
          go_ret
          refine ⟨⟨k, rfl, ?_⟩, rfl⟩
          rw [← List.take_append_drop (k + 1) xs, List.any_append, H2.out]
          simp [hb'.out]
        · have hb' := Lib.hid (Bool.eq_false_iff.2 hb)
          clear hb
          go_wp2_with fail
          refine (lit_any _ _ _ _ hl).mono ?_
          rintro e w1 ⟨rfl, rfl⟩
          rw [hb'.out]
          go_wp2
          go_roundg (xs.length - (k + 1))
          case rel => exact ⟨k + 1, rfl, by omega, by go_num, rfl, by rw [H2.out, List.any_append, H1.out]; simp [hb'.out]⟩
          case measure => omega
    · go_wp2
      go_ret
      exact ⟨⟨-1, rfl, by rw [List.take_of_length_le (by omega)] at hno; rw [hno]; rfl⟩, rfl⟩

theorem containsFunc_any (v : Value) (xs : List Int) (lim : Int) (ad : Addr) (w : World) (h : IntsAt w v xs) (hl : w.cell? ad = some (.int .i64 lim)) :
    Calls Try.prog 44 #[v, .func (.func 45) #[] #[.pointer (some ad)]] w fun e w' => e = .returned (.bool (xs.any (badRef lim))) ∧ w = w' := by
  obtain ⟨a, cap, rfl, hlen⟩ := h.shape
  go_enter Try.func44, Try.ntmps44
  go_wp2_with fail
  refine (indexFunc_any _ xs lim ad _ h hl).mono ?_
  rintro e w1 ⟨⟨n, rfl, hn⟩, rfl⟩
  have H := Lib.hid hn
  clear hn
  go_wp2
  go_ret
  exact ⟨by rw [← H.out]; rfl, rfl⟩

theorem refers_any (v : Value) (xs : List Int) (lim : Int) (w : World) (h : IntsAt w v xs) :
    Calls Try.prog 25 #[v, .int .i64 lim] w fun e w' => e = .returned (.bool (refersB lim xs)) ∧ Frm [] w w' := by
  obtain ⟨a, cap, rfl, hlen⟩ := h.shape
  have f0 : Frm [] w (w.alloc (.cells #[.int .i64 lim] 3)) := (Frm.refl [] w).alloc _
  have h' := h.frm f0 (by simp)
  have c := (RowAt.made w 3 [.int .i64 lim] #[.int .i64 lim] rfl).cell (i := 0) rfl
  by_cases hb : (xs.length : Int) ≤ 4096
  · go_enter Try.func25, Try.ntmps25
    go_wp2_with fail
    refine (containsFunc_any _ xs lim _ _ h' c).mono ?_
    rintro e w1 ⟨rfl, rfl⟩
    go_wp2
    go_ret
    refine ⟨?_, f0⟩
    have : xs.length ≤ 4096 := by omega
    simp [refersB, this]
  · go_enter Try.func25, Try.ntmps25
    go_wp2
    go_ret
    refine ⟨?_, f0⟩
    have : ¬ xs.length ≤ 4096 := by omega
    simp [refersB, this]

end Go.Proofs.Ytlpgonnionbkfaa
